/-
  PLAIN LAW: of one machine's snapshots that are picked no more are unlike than the four numbers are together.
-/
import Derived.Test.YtgelaffifjicoaaDoorPick
namespace Go.Proofs.YtgelaffifjicoaaDoor
open Go.RowKit
set_option linter.unusedSimpArgs false
set_option linter.unusedVariables false

/-- None but itself stands behind it: the last one by the order. -/
theorem hindmost : ∀ (S : List One), S ≠ [] → ∃ y ∈ S, ∀ z ∈ S, z = y ∨ ahead z y
  | [x], _ => ⟨x, by simp, fun z hz => .inl (by simpa using hz)⟩
  | x :: y :: l, _ => by
    obtain ⟨e, he, h⟩ := hindmost (y :: l) (by simp)
    rcases ahead_total x e with d | d | d
    · subst d
      refine ⟨x, by simp, fun z hz => ?_⟩
      rcases List.mem_cons.1 hz with c | c
      · exact .inl c
      · exact h z c
    · refine ⟨e, List.mem_cons_of_mem _ he, fun z hz => ?_⟩
      rcases List.mem_cons.1 hz with c | c
      · subst c; exact .inr d
      · exact h z c
    · refine ⟨x, by simp, fun z hz => ?_⟩
      rcases List.mem_cons.1 hz with c | c
      · exact .inl c
      · rcases h z c with c | c
        · subst c; exact .inr d
        · exact .inr (ahead_trans c d)

theorem nodup_map_on {α β : Type} (f : α → β) : ∀ (l : List α), l.Nodup → (∀ x ∈ l, ∀ y ∈ l, f x = f y → x = y) → (l.map f).Nodup
  | [], _, _ => List.nodup_nil
  | x :: l, h, hi => by
    have hn := List.nodup_cons.1 h
    rw [List.map_cons, List.nodup_cons]
    refine ⟨fun c => ?_, nodup_map_on f l hn.2 (fun a ha b hb => hi a (List.mem_cons_of_mem _ ha) b (List.mem_cons_of_mem _ hb))⟩
    obtain ⟨y, hy, e⟩ := List.mem_map.1 c
    have := hi x List.mem_cons_self y (List.mem_cons_of_mem _ hy) e.symm
    subst this
    exact hn.1 hy

/-- Of one kind of periods. -/
theorem few_one (per : Int → Int) (n : Int) (hn : 0 ≤ n) (L : List One) (m : ByteArray) (S : List One) (hS : S.Nodup) (hm : ∀ x ∈ S, x.m = m ∧ x ∈ L ∧ picked per n L x) : (S.length : Int) ≤ n := by
  by_cases he : S = []
  · subst he; simpa using hn
  · obtain ⟨y, hy, hlast⟩ := hindmost S he
    -- unlike ones have unlike periods
    have hinj : ∀ a ∈ S, ∀ b ∈ S, per a.t = per b.t → a = b := by
      intro a ha b hb e
      obtain ⟨ma, la, pa⟩ := hm a ha
      obtain ⟨mb, lb, pb⟩ := hm b hb
      rcases ahead_total a b with d | d | d
      · exact d
      · exact absurd ((above_mem per L b _).2 ⟨a, la, (later_ahead a b (ma.trans mb.symm)).2 d, e⟩) pb.1
      · exact absurd ((above_mem per L a _).2 ⟨b, lb, (later_ahead b a (mb.trans ma.symm)).2 d, e.symm⟩) pa.1
    obtain ⟨my, ly, py⟩ := hm y hy
    have hnd := nodup_map_on (fun z : One => per z.t) S hS hinj
    have hsub : ∀ q ∈ S.map (fun z : One => per z.t), q ∈ per y.t :: distinct (above per L y) := by
      intro q hq
      obtain ⟨z, hz, rfl⟩ := List.mem_map.1 hq
      obtain ⟨mz, lz, pz⟩ := hm z hz
      rcases hlast z hz with rfl | d
      · exact List.mem_cons_self
      · exact List.mem_cons_of_mem _ ((distinct_mem _ _).2 ((above_mem per L y _).2 ⟨z, lz, (later_ahead z y (mz.trans my.symm)).2 d, rfl⟩))
    have hle := nodup_le _ _ hnd hsub
    rw [List.length_map, List.length_cons] at hle
    have := py.2
    omega

theorem length_filter_add {α : Type} (p : α → Bool) : ∀ l : List α, (l.filter p).length + (l.filter fun x => !p x).length = l.length
  | [] => rfl
  | x :: l => by
    have := length_filter_add p l
    cases h : p x <;> simp [List.filter_cons, h] <;> omega

/-- Of all four. -/
theorem few_all (p : Pol) (hp : p.chk = 0) (L : List One) (m : ByteArray) : ∀ (i : Nat), i ≤ 4 → ∀ (S : List One), S.Nodup → (∀ x ∈ S, x.m = m ∧ x ∈ L ∧ ∃ j, j < i ∧ picked (perN j) (p.num j) L x) →
    (S.length : Int) ≤ ((List.range i).map p.num).sum
  | 0, _, S, _, h => by
    have : S = [] := List.eq_nil_iff_forall_not_mem.2 fun x hx => by obtain ⟨_, _, j, hj, _⟩ := h x hx; omega
    subst this; simp
  | i + 1, hi, S, hS, h => by
    have hnn : 0 ≤ p.num i := by
      unfold Pol.chk polChk at hp
      split at hp
      · cases hp
      · rename_i hh
        rcases i with _ | _ | _ | i
        · show 0 ≤ p.d; omega
        · show 0 ≤ p.k; omega
        · show 0 ≤ p.m; omega
        · show 0 ≤ p.y; omega
    let q : One → Bool := fun x => @decide (picked (perN i) (p.num i) L x) (Classical.propDecidable _)
    have h1 := few_one (perN i) (p.num i) hnn L m (S.filter q) (hS.filter _) (fun x hx => by
      obtain ⟨hx, hq⟩ := List.mem_filter.1 hx
      obtain ⟨a, b, _⟩ := h x hx
      exact ⟨a, b, by simpa [q] using hq⟩)
    have h2 := few_all p hp L m i (by omega) (S.filter fun x => !q x) (hS.filter _) (fun x hx => by
      obtain ⟨hx, hq⟩ := List.mem_filter.1 hx
      obtain ⟨a, b, j, hj, hpk⟩ := h x hx
      refine ⟨a, b, j, ?_, hpk⟩
      by_cases e : j = i
      · subst e; simp [q, hpk] at hq
      · omega)
    have h3 := length_filter_add q S
    rw [List.range_succ, List.map_append, List.sum_append]
    simp only [List.map_cons, List.map_nil, List.sum_cons, List.sum_nil]
    omega
theorem few_sum (p : Pol) (hp : p.chk = 0) (L : List One) (m : ByteArray) (S : List One) (hS : S.Nodup) (h : ∀ x ∈ S, x.m = m ∧ x ∈ L ∧ ∃ j, j < 4 ∧ picked (perN j) (p.num j) L x) : (S.length : Int) ≤ p.d + p.k + p.m + p.y := by
  have := few_all p hp L m 4 (Nat.le_refl _) S hS h
  have e : ((List.range 4).map p.num).sum = p.d + p.k + p.m + p.y := by
    show (p.d + (p.k + (p.m + (p.y + 0)))) = _
    omega
  omega

end Go.Proofs.YtgelaffifjicoaaDoor
