/-
  WALK: policy.sorted: of snapshots what tells them apart, the latest one first; the library's sort by its contract.
-/
import Derived.Test.YtgelaffifjicoaaGreatDoorMpol
import Derived.Test.YtgelaffifjicoaaGreatDoorSortK
import Derived.Maps.AppendAt
namespace Go.Proofs.YtgelaffifjicoaaGreatDoor
open Go.RowKit
set_option linter.unusedSimpArgs false
set_option linter.unusedVariables false

/-- The library's order of snapshots. -/
def srt (d : List One) : List One := d.mergeSort fun x y => !decide (cf y x < 0)
def SortSays : Prop := ∀ (d : List One) (g cap : Nat) (w : World), Sort.HoldsK One.cs 3 w g 0 d.toArray → g < w.heap.size → d.length < 4611686018427387904 →
  Calls Tryz.prog 35 #[.slice (some ⟨g, 0, none⟩) d.length cap, .func (.func 36) #[] #[]] w fun e w' => e = .returned (.tuple #[]) ∧ ∃ n os, w' = Go.Proofs.sortWorldK One.cs 3 w g 0 n (srt d).toArray os
def SortNone : Prop := ∀ (p : Option Addr) (cap : Nat) (fv : Value) (w : World),
  Calls Tryz.prog 35 #[.slice p 0 cap, fv] w fun e w' => e = .returned (.tuple #[]) ∧ w' = w

theorem ownsRow_below {w w' : World} {base B : Nat} {e : TypeId} {size : Nat} {v : Value} {n : Nat} {xs : List Value} (h : w.ownsRow base e size v n xs) (hb : Below B w w') (hB : w.heap.size ≤ B) : w'.ownsRow base e size v n xs := by
  refine ⟨h.1, ?_⟩
  rcases h.2 with hn | ⟨g, cap, cur, rfl, hg, hh, r⟩
  · exact .inl hn
  · exact .inr ⟨g, cap, cur, rfl, hg, (hb.block g (Nat.lt_of_lt_of_le (Array.getElem?_eq_some_iff.1 hh).1 hB)).trans hh, r⟩

theorem flat_len {α : Type} (f : α → List Value) (k : Nat) (hk : ∀ x, (f x).length = k) (l : List α) : (l.flatMap f).length = l.length * k := by
  induction l with
  | nil => simp
  | cons x l ih => simp [hk, ih, Nat.add_mul, Nat.add_comm]
theorem flat_at {α : Type} (f : α → List Value) (k : Nat) (hk : ∀ x, (f x).length = k) (l : List α) (i j : Nat) (hi : i < l.length) (hj : j < k) : (l.flatMap f)[i * k + j]? = (f l[i])[j]? := by
  induction l generalizing i with
  | nil => simp at hi
  | cons x l ih =>
    rw [List.flatMap_cons]
    cases i with
    | zero => rw [List.getElem?_append_left (by rw [hk]; omega)]; simp
    | succ i =>
      rw [List.getElem?_append_right (by rw [hk, Nat.add_mul]; omega), hk, show (i + 1) * k + j - k = i * k + j from by rw [Nat.add_mul]; omega, ih i (by simpa using hi)]
      simp
theorem flat_take_succ {α : Type} (f : α → List Value) (l : List α) (i : Nat) (hi : i < l.length) : (l.take (i + 1)).flatMap f = (l.take i).flatMap f ++ f l[i] := by
  rw [List.take_succ_eq_append_getElem hi, List.flatMap_append]; simp

/-- Element i of a slice of k cells an element. -/
theorem Reads.elem {α : Type} {f : α → List Value} {k : Nat} (hk : ∀ x, (f x).length = k) (k0 : 0 < k) {w : World} {B n : Nat} {A : Option Addr} {l : List α} (h : Reads w B k A n (l.flatMap f)) (hl : l.length = n) {i : Nat} (hi : i < l.length) :
    ∃ b o, A = some ⟨b, o, none⟩ ∧ b < B ∧ ∀ j, j < k → w.cell? ⟨b, o + i * k + j, none⟩ = (f l[i])[j]? := by
  obtain ⟨⟨b, o, s⟩, hA, hb, hc⟩ := h.2 (by omega)
  have hn : s = none := by
    have h0 := flat_at f k hk l 0 0 (by omega) k0
    have hf : (f l[0])[0]? = some ((f l[0])[0]'(by rw [hk]; exact k0)) := List.getElem?_eq_getElem _
    rw [hf] at h0
    have := hc (0 * k + 0) _ h0
    rw [Nat.zero_mul, Nat.zero_add] at this
    cases s with
    | none => rfl
    | some s => simp [Addr.add, World.cell?] at this; split at this <;> simp at this
  subst hn
  refine ⟨b, o, hA, hb, fun j hj => ?_⟩
  have h0 := flat_at f k hk l i j hi hj
  have hf : (f l[i])[j]? = some ((f l[i])[j]'(by rw [hk]; exact hj)) := List.getElem?_eq_getElem _
  rw [hf] at h0 ⊢
  have := hc (i * k + j) _ h0
  have ha : (⟨b, o, none⟩ : Addr).add (i * k + j) = ⟨b, o + i * k + j, none⟩ := by
    unfold Addr.add
    by_cases hz : i * k + j = 0
    · rw [if_pos hz, Nat.add_assoc, hz]; rfl
    · rw [if_neg hz, Nat.add_assoc]
  rw [ha] at this
  exact this
/-- .. of a slice of snapshots. -/
theorem Reads.ref {w : World} {B n : Nat} {A : Option Addr} {l : List Ref} (h : Reads w B 5 A n (l.flatMap Ref.cs)) (hl : l.length = n) {i : Nat} (hi : i < l.length) :
    ∃ b o x, A = some ⟨b, o, none⟩ ∧ x = l[i] ∧ b < B ∧ w.cell? ⟨b, o + i * 5, none⟩ = some (.string x.m) ∧ w.cell? ⟨b, o + i * 5 + 1, none⟩ = some (.int .i64 x.n) ∧ w.cell? ⟨b, o + i * 5 + 2, none⟩ = some (.int .i64 x.t) ∧ w.cell? ⟨b, o + i * 5 + 3, none⟩ = some (.string x.nm) ∧ w.cell? ⟨b, o + i * 5 + 4, none⟩ = some (.int .i64 x.u) := by
  obtain ⟨b, o, rfl, hb, hc⟩ := h.elem (k := 5) (f := Ref.cs) (fun _ => rfl) (by omega) hl hi
  exact ⟨b, o, l[i], rfl, rfl, hb, hc 0 (by omega), hc 1 (by omega), hc 2 (by omega), hc 3 (by omega), hc 4 (by omega)⟩
/-- .. of a slice of what tells snapshots apart. -/
theorem Reads.one {w : World} {B n : Nat} {A : Option Addr} {l : List One} (h : Reads w B 3 A n (l.flatMap One.cs)) (hl : l.length = n) {i : Nat} (hi : i < l.length) :
    ∃ b o x, A = some ⟨b, o, none⟩ ∧ x = l[i] ∧ b < B ∧ w.cell? ⟨b, o + i * 3, none⟩ = some (.string x.m) ∧ w.cell? ⟨b, o + i * 3 + 1, none⟩ = some (.int .i64 x.n) ∧ w.cell? ⟨b, o + i * 3 + 2, none⟩ = some (.int .i64 x.t) := by
  obtain ⟨b, o, rfl, hb, hc⟩ := h.elem (k := 3) (f := One.cs) (fun _ => rfl) (by omega) hl hi
  exact ⟨b, o, l[i], rfl, rfl, hb, hc 0 (by omega), hc 1 (by omega), hc 2 (by omega)⟩

theorem news_cells (w : World) (xs : List Value) (t : TypeId) : ∀ j u, xs[j]? = some u → (w.alloc (.cells xs.toArray t)).cell? ((⟨w.heap.size, 0, none⟩ : Addr).add j) = some u := by
  intro j u hj
  have hh := heap_alloc_new w (.cells xs.toArray t)
  have ha : (⟨w.heap.size, 0, none⟩ : Addr).add j = ⟨w.heap.size, j, none⟩ := by
    unfold Addr.add
    by_cases hz : j = 0
    · rw [if_pos hz, hz]
    · rw [if_neg hz, Nat.zero_add]
  rw [ha]
  unfold World.cell?
  rw [show (⟨w.heap.size, j, none⟩ : Addr).block = w.heap.size from rfl, hh]
  simpa using hj

theorem infoOne : (Tryz.prog.info? 55).map (fun i => (i.zero, i.size, i.bytes)) = some (some (.agg #[.string ⟨#[]⟩, .int .i64 0, .int .i64 0]), 3, 32) := by kernel_rfl

set_option maxRecDepth 100000 in
set_option maxHeartbeats 400000 in
theorem sorted_any (hso : SortSays) (hno : SortNone) (l : List Ref) (A : Option Addr) (cap : Nat) (w : World) (hr : Reads w w.heap.size 5 A l.length (l.flatMap Ref.cs)) (hn : l.length ≤ 60) :
    Calls Tryz.prog 20 #[.slice A l.length cap] w fun e w' => ∃ v, e = .returned v ∧ w'.ownsRow w.heap.size 55 3 v l.length ((srt (l.map Ref.one)).flatMap One.cs) ∧ Below w.heap.size w w' := by
  obtain ⟨i0, hi0, hz0, hz1, hz2⟩ := info_parts infoOne
  go_enter Tryz.func20, Tryz.ntmps20
  go_wp2_with fail
  go_loopw [3, 8] (fun v i wr => ∃ k : Nat, i = .int .i64 k ∧ k ≤ l.length ∧ wr.ownsRow w.heap.size 55 3 v k (((l.map Ref.one).take k).flatMap One.cs) ∧ Below w.heap.size w wr)
    (fun _ i _ => l.length - (intOf i).toNat)
  case atStart => exact ⟨0, rfl, Nat.zero_le _, World.ownsRow_nil _ _ _ _, Below.refl _ _⟩
  case round =>
    obtain ⟨k, rfl, hk, hown, hb⟩ := hrel
    by_cases hlt : k < l.length
    · obtain ⟨b, o, x, rfl, hx, hbl, c0, c1, c2, c3, c4⟩ := (hr.below hb).ref rfl hlt
      have HX := Lib.hid hx
      clear hx
      go_wp2_with fail
      refine (of_any x _).mono ?_; rintro e w1 ⟨rfl, hb1⟩
      have hown1 := ownsRow_below (hown.alloc (.cells x.cs.toArray 34)) hb1 (by simp)
      have hb2 : Below w.heap.size w w1 := (hb.alloc hb.size _).trans (hb1.mono (by have := hb.size; simp; omega))
      go_wp2_with (at_builtin; refine wpList_append_own_at _ rfl (.tmp 12) (.tmp 15) 49 rfl w.heap.size 55 i0 _ 3 32 Tryz.underlying49 hi0 hz0 hz1 hz2 rfl (by omega) _ _ _ rfl (hown1.alloc _) ⟨w1.heap.size, 0, none⟩ 1 1 x.one.cs rfl rfl (news_cells w1 x.one.cs _) (by simp [One.cs, Value.oneCell']) (by unfold maxLen; omega) (by omega) (by have := hb2.size; simp; omega) ?_; intro v' w2 hown2 hgrow2 _ _)
      go_roundw
      case rel =>
        have hx := HX.out
        refine ⟨k + 1, by go_num, by omega, ?_, ?_⟩
        · rw [flat_take_succ One.cs (l.map Ref.one) k (by simpa using hlt)]
          simpa [hx] using hown2
        · exact ((hb2.alloc hb2.size _).grown hgrow2 (by have := hb2.size; simp; omega) (fun j hj => by
            have := (hown1.lt j hj).1; omega))
      case measure => simp [intOf]; omega
    · have hkl : k = l.length := by omega
      subst hkl
      have HO := Lib.hid hown
      go_wp2_with fail
      rw [show ((l.map Ref.one).take l.length) = l.map Ref.one from by rw [List.take_of_length_le (by simp)]] at hown
      have hsl : (srt (l.map Ref.one)).length = l.length := by unfold srt; rw [List.length_mergeSort, List.length_map]
      rcases hown.2 with ⟨rfl, h0⟩ | ⟨g, cap', cur, rfl, hg, hh, h1, h2, h3, h4⟩
      · have h00 : l = [] := List.eq_nil_of_length_eq_zero h0
        rw [h0]
        refine (hno _ _ _ _).mono ?_; rintro e w1 ⟨rfl, rfl⟩
        go_wp2_with fail
        go_ret
        refine ⟨_, rfl, ?_, hb⟩
        subst h00
        rw [show srt (([] : List Ref).map Ref.one) = [] from by simp [srt]]
        exact World.ownsRow_nil _ _ _ _
      · have hH := holdsK_of_block (enc := One.cs) (k := 3) (fun _ => rfl) (ss := l.map Ref.one) hh (by rw [List.length_map]; exact h4)
        have hc := hso (l.map Ref.one) g cap' wr hH (Array.getElem?_eq_some_iff.1 hh).1 (by rw [List.length_map]; omega)
        rw [List.length_map] at hc
        refine hc.mono ?_; rintro e w1 ⟨rfl, n, os, rfl⟩
        have hown' := ownsRow_sortedK (enc := One.cs) (k := 3) (fun _ => rfl) (n := n) (os := os) (ss := l.map Ref.one) (ts := srt (l.map Ref.one)) (by rw [hsl, List.length_map]) hg hh (by rw [List.length_map]; exact h1) h2 h3
        rw [List.length_map] at hown'
        have hg2 : wr.grownBy (Go.Proofs.sortWorldK One.cs 3 wr g 0 n (srt (l.map Ref.one)).toArray os) (some g) := grownBy_sortedK _
        have hb2 := hb.grown hg2 hb.size (fun j hj => by cases hj; exact hg)
        generalize Go.Proofs.sortWorldK One.cs 3 wr g 0 n (srt (l.map Ref.one)).toArray os = w1 at *
        clear hg2 hH hc hh h4 h3 hown
        go_wp2_with fail
        go_ret
        exact ⟨_, rfl, hown', hb2⟩

end Go.Proofs.YtgelaffifjicoaaGreatDoor
