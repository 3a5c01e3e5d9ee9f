/-
  PLAIN LAW: what policy.last keeps, told without an order: the latest one of its own period, fewer than n later periods.
-/
import Derived.Test.YtgelaffifjicoaaGreatDoorKeeps
namespace Go.Proofs.YtgelaffifjicoaaGreatDoor
open Go.RowKit
set_option linter.unusedSimpArgs false
set_option linter.unusedVariables false

/-! ### Numbers of a list, each once -/
def distinct (l : List Int) : List Int := l.foldl (fun acc p => if p ∈ acc then acc else p :: acc) []
theorem distinct_go (l : List Int) : ∀ acc : List Int, acc.Nodup → (l.foldl (fun acc p => if p ∈ acc then acc else p :: acc) acc).Nodup ∧ ∀ q, q ∈ l.foldl (fun acc p => if p ∈ acc then acc else p :: acc) acc ↔ q ∈ acc ∨ q ∈ l := by
  induction l with
  | nil => intro acc h; exact ⟨h, fun q => by simp⟩
  | cons p l ih =>
    intro acc h
    simp only [List.foldl_cons]
    by_cases hp : p ∈ acc
    · rw [if_pos hp]
      obtain ⟨h1, h2⟩ := ih acc h
      refine ⟨h1, fun q => ?_⟩
      rw [h2]
      constructor
      · rintro (h | h)
        · exact .inl h
        · exact .inr (List.mem_cons_of_mem _ h)
      · rintro (h | h)
        · exact .inl h
        · rcases List.mem_cons.1 h with rfl | h
          · exact .inl hp
          · exact .inr h
    · rw [if_neg hp]
      obtain ⟨h1, h2⟩ := ih (p :: acc) (List.nodup_cons.2 ⟨hp, h⟩)
      refine ⟨h1, fun q => ?_⟩
      rw [h2]
      simp only [List.mem_cons]
      constructor
      · rintro ((h | h) | h)
        · exact .inr (.inl h)
        · exact .inl h
        · exact .inr (.inr h)
      · rintro (h | h | h)
        · exact .inl (.inr h)
        · exact .inl (.inl h)
        · exact .inr h
theorem distinct_nodup (l : List Int) : (distinct l).Nodup := (distinct_go l [] List.nodup_nil).1
theorem distinct_mem (l : List Int) (q : Int) : q ∈ distinct l ↔ q ∈ l := by rw [distinct, (distinct_go l [] List.nodup_nil).2]; simp
theorem nodup_le {α : Type} [BEq α] [LawfulBEq α] : ∀ (A B : List α), A.Nodup → (∀ x ∈ A, x ∈ B) → A.length ≤ B.length
  | [], B, _, _ => Nat.zero_le _
  | a :: A, B, hA, h => by
    have ha := h a List.mem_cons_self
    have hn := List.nodup_cons.1 hA
    have := nodup_le A (B.erase a) hn.2 (fun x hx => (List.mem_erase_of_ne (fun e => hn.1 (by rw [← e]; exact hx))).2 (h x (List.mem_cons_of_mem _ hx)))
    rw [List.length_erase_of_mem ha] at this
    have hpos := List.length_pos_of_mem ha
    simp only [List.length_cons]
    omega
theorem distinct_le {A B : List Int} (h : ∀ x ∈ A, x ∈ B) : (distinct A).length ≤ (distinct B).length :=
  nodup_le _ _ (distinct_nodup A) (fun x hx => (distinct_mem B x).2 (h x ((distinct_mem A x).1 hx)))

/-! ### The walk's state -/
/-- The periods of a machine's among what has come. -/
def pers (per : Int → Int) (m : ByteArray) (a : List One) : List Int := (a.filter fun z => decide (z.m = m)).map fun z => per z.t
theorem pers_mem (per : Int → Int) (m : ByteArray) (a : List One) (q : Int) : q ∈ pers per m a ↔ ∃ z ∈ a, z.m = m ∧ per z.t = q := by
  unfold pers
  simp only [List.mem_map, List.mem_filter, decide_eq_true_eq]
  constructor
  · rintro ⟨z, ⟨h1, h2⟩, h3⟩; exact ⟨z, h1, h2, h3⟩
  · rintro ⟨z, h1, h2, h3⟩; exact ⟨z, ⟨h1, h2⟩, h3⟩
def Sorted1 (s : List One) : Prop := s.Pairwise fun x y => ¬ ahead y x
/-- What the state knows of a machine that may come next. -/
structure Knows (per : Int → Int) (n : Int) (a : List One) (m : ByteArray) (met : List Int) : Prop where
  nodup : met.Nodup
  sub : ∀ q ∈ met, q ∈ pers per m a
  all : (met.length : Int) < n → ∀ q ∈ pers per m a, q ∈ met
theorem Knows.iff_ {per : Int → Int} {n : Int} {a : List One} {m : ByteArray} {met : List Int} (h : Knows per n a m met) (q : Int) :
    (q ∉ met ∧ (met.length : Int) < n) ↔ (q ∉ pers per m a ∧ ((distinct (pers per m a)).length : Int) < n) := by
  constructor
  · rintro ⟨h1, h2⟩
    refine ⟨fun c => h1 (h.all h2 q c), ?_⟩
    have := nodup_le (distinct (pers per m a)) met (distinct_nodup _) (fun x hx => h.all h2 x ((distinct_mem _ _).1 hx))
    omega
  · rintro ⟨h1, h2⟩
    refine ⟨fun c => h1 (h.sub q c), ?_⟩
    have := nodup_le met (distinct (pers per m a)) h.nodup (fun x hx => (distinct_mem _ _).2 (h.sub x hx))
    omega

theorem cb_le_of_not {x y : One} (h : ¬ ahead y x) : Lib.compareBytes x.m.data.toList y.m.data.toList ≤ 0 := by
  have hn := cb_neg x.m.data.toList y.m.data.toList
  rcases Int.lt_or_le 0 (Lib.compareBytes x.m.data.toList y.m.data.toList) with c | c
  · exact absurd (.inl (by omega)) h
  · exact c

/-- The state behind a. -/
structure Inv (per : Int → Int) (n : Int) (a : List One) (s : LSt) : Prop where
  last : ∀ m, s.m = some m → ∃ b z, a = b ++ [z] ∧ z.m = m
  none_ : s.m = none → a = []
  knows : ∀ m, s.m = some m → Knows per n a m s.met

theorem inv_met0 {per : Int → Int} {n : Int} {a : List One} {s : LSt} (h : Inv per n a s) (y : One) (hs : Sorted1 (a ++ [y])) : Knows per n a y.m (s.met0 y) := by
  unfold LSt.met0
  by_cases hm : s.m = some y.m
  · rw [if_pos hm]; exact h.knows _ hm
  · rw [if_neg hm]
    refine ⟨List.nodup_nil, by simp, fun _ q hq => ?_⟩
    obtain ⟨z, hz, hzm, _⟩ := (pers_mem per y.m a q).1 hq
    cases hsm : s.m with
    | none => have := h.none_ hsm; subst this; cases hz
    | some m =>
      obtain ⟨b, l, rfl, hlm⟩ := h.last m hsm
      have hne : l.m ≠ y.m := fun c => hm (by rw [hsm, ← hlm, c])
      -- z stands ahead of l, or is it; l ahead of y
      have h1 : ¬ ahead y l := (List.pairwise_append.1 hs).2.2 l (by simp) y (by simp)
      have h2 : ¬ ahead l z := by
        have hp := (List.pairwise_append.1 hs).1
        rcases List.mem_append.1 hz with hz | hz
        · exact (List.pairwise_append.1 hp).2.2 z hz l (by simp)
        · rcases List.mem_singleton.1 hz with rfl
          exact ahead_irrefl _
      have c1 := cb_le_of_not h1
      have c2 := cb_le_of_not h2
      have hn := cb_neg l.m.data.toList y.m.data.toList
      rw [hzm] at c2
      exact absurd ((cb_zero l y).1 (by omega)) hne

theorem inv_step {per : Int → Int} {n : Int} {a : List One} {s : LSt} (h : Inv per n a s) (y : One) (hs : Sorted1 (a ++ [y])) : Inv per n (a ++ [y]) (s.step per n y) := by
  have hk := inv_met0 h y hs
  refine ⟨fun m hm => ⟨a, y, rfl, (by rw [step_m] at hm; injection hm)⟩, fun hm => (by rw [step_m] at hm; cases hm), fun m hm => ?_⟩
  rw [step_m] at hm
  injection hm with hm
  subst hm
  have hp : ∀ q, q ∈ pers per y.m (a ++ [y]) ↔ q ∈ pers per y.m a ∨ q = per y.t := by
    intro q
    simp only [pers_mem, List.mem_append, List.mem_singleton]
    constructor
    · rintro ⟨z, hz | rfl, h1, h2⟩
      · exact .inl ⟨z, hz, h1, h2⟩
      · exact .inr h2.symm
    · rintro (⟨z, hz, h1, h2⟩ | rfl)
      · exact ⟨z, .inl hz, h1, h2⟩
      · exact ⟨y, .inr rfl, rfl, rfl⟩
  unfold LSt.step
  by_cases hc : per y.t ∉ s.met0 y ∧ ((s.met0 y).length : Int) < n
  · rw [if_pos hc]
    refine ⟨List.nodup_cons.2 ⟨hc.1, hk.nodup⟩, fun q hq => ?_, fun hl q hq => ?_⟩
    · rw [hp]
      rcases List.mem_cons.1 hq with rfl | hq
      · exact .inr rfl
      · exact .inl (hk.sub q hq)
    · rcases (hp q).1 hq with hq | rfl
      · exact List.mem_cons_of_mem _ (hk.all hc.2 q hq)
      · exact List.mem_cons_self
  · rw [if_neg hc]
    refine ⟨hk.nodup, fun q hq => (hp q).2 (.inl (hk.sub q hq)), fun hl q hq => ?_⟩
    rcases (hp q).1 hq with hq | rfl
    · exact hk.all hl q hq
    · by_cases hm : per y.t ∈ s.met0 y
      · exact hm
      · exact absurd ⟨hm, hl⟩ hc

theorem step_mem {per : Int → Int} {n : Int} {a : List One} {s : LSt} (h : Inv per n a s) (x y : One) (hs : Sorted1 (a ++ [x])) :
    y ∈ (s.step per n x).kept ↔ y ∈ s.kept ∨ (y = x ∧ per y.t ∉ pers per y.m a ∧ ((distinct (pers per y.m a)).length : Int) < n) := by
  have hk := (inv_met0 h x hs).iff_ (per x.t)
  unfold LSt.step
  by_cases hc : per x.t ∉ s.met0 x ∧ ((s.met0 x).length : Int) < n
  · rw [if_pos hc, ins_mem]
    have := hk.1 hc
    constructor
    · rintro (rfl | h)
      · exact .inr ⟨rfl, this⟩
      · exact .inl h
    · rintro (h | ⟨rfl, _⟩)
      · exact .inr h
      · exact .inl rfl
  · rw [if_neg hc]
    constructor
    · exact .inl
    · rintro (h | ⟨rfl, h⟩)
      · exact h
      · exact absurd (hk.2 h) hc

theorem fold_pick {per : Int → Int} {n : Int} (y : One) : ∀ (c a : List One) (s : LSt), Inv per n a s → Sorted1 (a ++ c) →
    (y ∈ (c.foldl (LSt.step per n) s).kept ↔ y ∈ s.kept ∨ ∃ a' b', c = a' ++ y :: b' ∧ per y.t ∉ pers per y.m (a ++ a') ∧ ((distinct (pers per y.m (a ++ a'))).length : Int) < n)
  | [], a, s, h, hs => by simp
  | x :: c, a, s, h, hs => by
    have hs' : Sorted1 ((a ++ [x]) ++ c) := by rw [List.append_assoc]; exact hs
    have hs1 : Sorted1 (a ++ [x]) := (List.pairwise_append.1 hs').1
    rw [List.foldl_cons, fold_pick y c (a ++ [x]) _ (inv_step h x hs1) hs', step_mem h x y hs1]
    constructor
    · rintro ((h | ⟨rfl, h⟩) | ⟨a', b', rfl, h⟩)
      · exact .inl h
      · exact .inr ⟨[], c, rfl, by simpa using h⟩
      · exact .inr ⟨x :: a', b', rfl, by simpa using h⟩
    · rintro (h | ⟨a', b', he, h⟩)
      · exact .inl (.inl h)
      · cases a' with
        | nil =>
          simp only [List.nil_append, List.cons.injEq] at he
          obtain ⟨rfl, rfl⟩ := he
          exact .inl (.inr ⟨rfl, by simpa using h⟩)
        | cons z a' =>
          simp only [List.cons_append, List.cons.injEq] at he
          obtain ⟨rfl, rfl⟩ := he
          exact .inr ⟨a', b', rfl, by simpa using h⟩

/-! ### Without an order -/
/-- A later one of the same machine. -/
def later (z y : One) : Prop := z.m = y.m ∧ (y.t < z.t ∨ (z.t = y.t ∧ y.n < z.n))
theorem later_ahead (z y : One) (hm : z.m = y.m) : later z y ↔ ahead z y := by
  unfold later ahead
  have h0 : Lib.compareBytes z.m.data.toList y.m.data.toList = 0 := (cb_zero z y).2 hm
  constructor
  · rintro ⟨_, h⟩; exact .inr ⟨hm, h⟩
  · rintro (h | h)
    · omega
    · exact ⟨hm, h.2⟩
/-- The periods of the later ones. -/
def above (per : Int → Int) (L : List One) (y : One) : List Int := (L.filter fun z => decide (z.m = y.m) && (decide (y.t < z.t) || (decide (z.t = y.t) && decide (y.n < z.n)))).map fun z => per z.t
theorem above_mem (per : Int → Int) (L : List One) (y : One) (q : Int) : q ∈ above per L y ↔ ∃ z ∈ L, later z y ∧ per z.t = q := by
  unfold above later
  simp only [List.mem_map, List.mem_filter, Bool.and_eq_true, Bool.or_eq_true, decide_eq_true_eq]
  constructor
  · rintro ⟨z, ⟨h1, h2⟩, h3⟩; exact ⟨z, h1, h2, h3⟩
  · rintro ⟨z, h1, h2, h3⟩; exact ⟨z, ⟨h1, h2⟩, h3⟩
/-- Kept as one of n periods. -/
def picked (per : Int → Int) (n : Int) (L : List One) (y : One) : Prop := per y.t ∉ above per L y ∧ ((distinct (above per L y)).length : Int) < n

theorem srt_sorted (L : List One) : Sorted1 (srt L) := by
  unfold Sorted1 srt
  have h := List.pairwise_mergeSort (le := fun x y => !decide (cf y x < 0)) (fun x y z h1 h2 => by
    simp only [Bool.not_eq_true', decide_eq_false_iff_not, cf_ahead] at h1 h2 ⊢
    intro c
    rcases ahead_total x y with e | e | e
    · subst e; exact h2 c
    · exact h2 (ahead_trans c e)
    · exact h1 e) (fun x y => by
    simp only [Bool.or_eq_true, Bool.not_eq_true', decide_eq_false_iff_not, cf_ahead]
    by_cases c : ahead y x
    · exact .inr (fun d => ahead_irrefl _ (ahead_trans c d))
    · exact .inl c) L
  refine h.imp ?_
  intro x y h
  simpa [cf_ahead] using h

theorem first_split {α : Type} [DecidableEq α] {y : α} : ∀ {l : List α}, y ∈ l → ∃ a b, l = a ++ y :: b ∧ y ∉ a
  | x :: l, h => by
    by_cases hx : x = y
    · subst hx; exact ⟨[], l, rfl, by simp⟩
    · rcases List.mem_cons.1 h with e | h
      · exact absurd e.symm hx
      · obtain ⟨a, b, rfl, hn⟩ := first_split h
        refine ⟨x :: a, b, rfl, ?_⟩
        intro c
        rcases List.mem_cons.1 c with e | c
        · exact hx e.symm
        · exact hn c

theorem lastGo_iff (per : Int → Int) (n : Int) (L K : List One) (y : One) : y ∈ (lastGo per n (srt L) K).kept ↔ y ∈ K ∨ (y ∈ L ∧ picked per n L y) := by
  have hs := srt_sorted L
  unfold lastGo
  rw [fold_pick y (srt L) [] ⟨none, [], K⟩ ⟨fun m h => by simp at h, fun _ => rfl, fun m h => by simp at h⟩ (by simpa using hs)]
  refine or_congr Iff.rfl ?_
  simp only [List.nil_append]
  constructor
  · rintro ⟨a, b, he, h1, h2⟩
    have hy : y ∈ srt L := by rw [he]; simp
    -- all that is later stands in a; so do its periods
    rw [he] at hs
    have hsub : ∀ q, q ∈ above per L y → q ∈ pers per y.m a := by
      intro q hq
      obtain ⟨z, hz, hl, hp⟩ := (above_mem per L y q).1 hq
      rw [← srt_mem, he] at hz
      have hah := (later_ahead z y hl.1).1 hl
      rcases List.mem_append.1 hz with hz | hz
      · exact (pers_mem per y.m a q).2 ⟨z, hz, hl.1, hp⟩
      · rcases List.mem_cons.1 hz with rfl | hz
        · exact absurd hah (ahead_irrefl _)
        · exact absurd hah ((List.pairwise_cons.1 (List.pairwise_append.1 hs).2.1).1 z hz)
    exact ⟨(srt_mem L y).1 hy, fun c => h1 (hsub _ c), by have := distinct_le hsub; omega⟩
  · rintro ⟨hy, h1, h2⟩
    rw [← srt_mem] at hy
    obtain ⟨a, b, he, hna⟩ := first_split hy
    have hsub : ∀ q, q ∈ pers per y.m a → q ∈ above per L y := by
      intro q hq
      obtain ⟨z, hz, hm, hp⟩ := (pers_mem per y.m a q).1 hq
      have hzl : z ∈ L := by rw [← srt_mem, he]; exact List.mem_append_left _ hz
      rw [he] at hs
      have hnot := (List.pairwise_append.1 hs).2.2 z hz y (by simp)
      have hah : ahead z y := by
        rcases ahead_total z y with e | e | e
        · subst e; exact absurd hz hna
        · exact e
        · exact absurd e hnot
      exact (above_mem per L y q).2 ⟨z, hzl, (later_ahead z y hm).2 hah, hp⟩
    exact ⟨a, b, he, fun c => h1 (hsub _ c), by have := distinct_le hsub; omega⟩

theorem keptN_iff (p : Pol) (L : List One) (y : One) : ∀ i, y ∈ keptN p (srt L) i ↔ y ∈ L ∧ ∃ j, j < i ∧ picked (perN j) (p.num j) L y
  | 0 => by simp [keptN]
  | i + 1 => by
    show y ∈ (lastGo (perN i) (p.num i) (srt L) (keptN p (srt L) i)).kept ↔ _
    rw [lastGo_iff, keptN_iff p L y i]
    constructor
    · rintro (⟨h, j, hj, hp⟩ | ⟨h, hp⟩)
      · exact ⟨h, j, by omega, hp⟩
      · exact ⟨h, i, by omega, hp⟩
    · rintro ⟨h, j, hj, hp⟩
      by_cases e : j = i
      · subst e; exact .inr ⟨h, hp⟩
      · exact .inl ⟨h, j, by omega, hp⟩

/-- WHAT POLICY.KEEP SAYS of a snapshot among those that there are. -/
theorem keepB_iff (p : Pol) (now : Int) (l : List Ref) (x : Ref) (hx : x ∈ l) :
    keepB p now l x = true ↔ p.chk ≠ 0 ∨ now < x.u ∨ ∃ j, j < 4 ∧ picked (perN j) (p.num j) (l.map Ref.one) x.one := by
  unfold keepB
  simp only [Bool.or_eq_true, bne_iff_ne, decide_eq_true_eq, keptN_iff]
  constructor
  · rintro ((h | h) | ⟨_, h⟩)
    · exact .inl h
    · exact .inr (.inl h)
    · exact .inr (.inr h)
  · rintro (h | h | h)
    · exact .inl (.inl h)
    · exact .inl (.inr h)
    · exact .inr ⟨List.mem_map_of_mem hx, h⟩
/-- Fewer snapshots, no fewer kept of them. -/
theorem picked_mono {per : Int → Int} {n : Int} {L L' : List One} (h : ∀ z ∈ L', z ∈ L) {y : One} (hp : picked per n L y) : picked per n L' y := by
  have hs : ∀ q, q ∈ above per L' y → q ∈ above per L y := by
    intro q hq
    obtain ⟨z, hz, hl, he⟩ := (above_mem per L' y q).1 hq
    exact (above_mem per L y q).2 ⟨z, h z hz, hl, he⟩
  exact ⟨fun c => hp.1 (hs _ c), by have := distinct_le hs; have := hp.2; omega⟩

end Go.Proofs.YtgelaffifjicoaaGreatDoor
