/-
  PLAIN LAW: of one snapshot a day, what a policy of days alone keeps, and one of weeks alone.
-/
import Derived.Test.YtgelaffifjicoaaDoorPick
namespace Go.Proofs.YtgelaffifjicoaaDoor
open Go.RowKit
set_option linter.unusedSimpArgs false
set_option linter.unusedVariables false

def rowM : ByteArray := ⟨#[109]⟩
/-- The snapshot of day i. -/
def rowRef (first : Int) (i : Nat) : Ref := ⟨rowM, (i : Int) + 1, first * 1440 + (i : Int) * 1440 + (i : Int) * 37 % 1440, ⟨#[]⟩, 0⟩
def rowL (first : Int) (n : Nat) : List Ref := (List.range n).map (rowRef first)
theorem rowL_len (first : Int) (n : Nat) : (rowL first n).length = n := by simp [rowL]
theorem rowL_succ (first : Int) (n : Nat) : rowL first (n + 1) = rowL first n ++ [rowRef first n] := by simp [rowL, List.range_succ]
theorem row_day (first : Int) (i : Nat) : Day.day (rowRef first i).t = first + i := by
  have h : (rowRef first i).t = first * 1440 + (i : Int) * 1440 + (i : Int) * 37 % 1440 := rfl
  rw [h]; unfold Day.day; omega
theorem row_week (first : Int) (i : Nat) : Day.week (rowRef first i).t = (first + 5) / 7 + (((first + 5) % 7 + i) / 7) := by
  unfold Day.week; rw [row_day]; omega
theorem row_later (first : Int) (i j : Nat) : later (rowRef first j).one (rowRef first i).one ↔ i < j := by
  have hi := row_day first i
  have hj := row_day first j
  unfold Day.day at hi hj
  have e1 : (rowRef first i).one.t = (rowRef first i).t := rfl
  have e2 : (rowRef first j).one.t = (rowRef first j).t := rfl
  have n1 : (rowRef first i).one.n = (i : Int) + 1 := rfl
  have n2 : (rowRef first j).one.n = (j : Int) + 1 := rfl
  unfold later
  rw [e1, e2, n1, n2]
  constructor
  · rintro ⟨_, h⟩
    rcases Nat.lt_trichotomy i j with c | c | c
    · exact c
    · subst c; omega
    · omega
  · intro h
    exact ⟨rfl, .inl (by omega)⟩
theorem row_above (per : Int → Int) (first : Int) (n i : Nat) (q : Int) : q ∈ above per ((rowL first n).map Ref.one) (rowRef first i).one ↔ ∃ k, i < k ∧ k < n ∧ per (rowRef first k).t = q := by
  rw [above_mem]
  constructor
  · rintro ⟨z, hz, hl, he⟩
    obtain ⟨r, hr, rfl⟩ := List.mem_map.1 hz
    obtain ⟨k, hk, rfl⟩ := List.mem_map.1 hr
    exact ⟨k, (row_later first i k).1 hl, List.mem_range.1 hk, he⟩
  · rintro ⟨k, h1, h2, he⟩
    exact ⟨_, List.mem_map_of_mem (List.mem_map_of_mem (List.mem_range.2 h2)), (row_later first i k).2 h1, he⟩
/-- As many numbers as lie between two. -/
theorem distinct_between {l : List Int} {a b : Int} (h : ∀ q, q ∈ l ↔ a < q ∧ q ≤ b) : (distinct l).length = (b - a).toNat := by
  let B : List Int := (List.range (b - a).toNat).map fun (k : Nat) => a + 1 + (k : Int)
  have hB : B.length = (b - a).toNat := by simp [B]
  have hn : B.Nodup := by
    unfold B
    have hr : (List.range (b - a).toNat).Nodup := List.nodup_range
    unfold List.Nodup at hr ⊢
    rw [List.pairwise_map]
    refine hr.imp ?_
    intro x y hxy
    omega
  have hm : ∀ q, q ∈ B ↔ a < q ∧ q ≤ b := by
    intro q
    simp only [B, List.mem_map, List.mem_range]
    constructor
    · rintro ⟨k, hk, rfl⟩; omega
    · rintro ⟨h1, h2⟩; exact ⟨(q - a - 1).toNat, by omega, by omega⟩
  have h1 := nodup_le _ _ (distinct_nodup l) (fun x hx => (hm x).2 ((h x).1 ((distinct_mem _ _).1 hx)))
  have h2 := nodup_le _ _ hn (fun x hx => (distinct_mem l x).2 ((h x).2 ((hm x).1 hx)))
  omega

theorem row_mem (first : Int) (n i : Nat) (hi : i < n) : rowRef first i ∈ rowL first n := List.mem_map_of_mem (List.mem_range.2 hi)
/-- Of days alone. -/
theorem row_days (first : Int) (n i : Nat) (keep : Int) (hk : 1 ≤ keep ∧ keep ≤ 12) (hi : i < n) :
    keepB ⟨keep, 0, 0, 0⟩ 4611686018427387904 (rowL first n) (rowRef first i) = decide ((n : Int) - keep ≤ (i : Int)) := by
  rw [Bool.eq_iff_iff, keepB_iff _ _ _ _ (row_mem first n i hi), decide_eq_true_eq]
  have hab : ∀ q, q ∈ above Day.day ((rowL first n).map Ref.one) (rowRef first i).one ↔ first + i < q ∧ q ≤ first + n - 1 := by
    intro q
    rw [row_above]
    simp only [row_day]
    constructor
    · rintro ⟨k, h1, h2, rfl⟩; omega
    · rintro ⟨h1, h2⟩; exact ⟨(q - first).toNat, by omega, by omega, by omega⟩
  have hd := distinct_between hab
  have hown : Day.day (rowRef first i).one.t = first + i := row_day first i
  constructor
  · rintro (h | h | ⟨j, hj, h1, h2⟩)
    · exact absurd (show Pol.chk ⟨keep, 0, 0, 0⟩ = 0 by unfold Pol.chk polChk; (repeat rw [if_neg]) <;> simp <;> omega) h
    · have hu : (rowRef first i).u = 0 := rfl
      rw [hu] at h; omega
    · rcases j with _ | _ | _ | j
      · have h2' : ((distinct (above Day.day ((rowL first n).map Ref.one) (rowRef first i).one)).length : Int) < keep := h2
        omega
      · exact absurd h2 (by show ¬ _ < (0 : Int); omega)
      · exact absurd h2 (by show ¬ _ < (0 : Int); omega)
      · exact absurd h2 (by show ¬ _ < (0 : Int); omega)
  · intro h
    refine .inr (.inr ⟨0, by omega, ?_, ?_⟩)
    · show ¬ Day.day (rowRef first i).one.t ∈ above Day.day _ _
      rw [hab, hown]; omega
    · show ((distinct (above Day.day ((rowL first n).map Ref.one) (rowRef first i).one)).length : Int) < keep
      omega

/-- The last one of its week, or of all; and fewer than so many weeks are later. -/
def wkB (s n keep i : Nat) : Bool := (decide (i + 1 = n) || decide ((s + i + 1) % 7 = 0)) && decide ((s + n - 1) / 7 < (s + i) / 7 + keep)
/-- Of weeks alone. -/
theorem row_weeks (first : Int) (s n i : Nat) (hs : (s : Int) = (first + 5) % 7) (keep : Nat) (hk : 1 ≤ keep ∧ keep ≤ 12) (hi : i < n) :
    keepB ⟨0, keep, 0, 0⟩ 4611686018427387904 (rowL first n) (rowRef first i) = wkB s n keep i := by
  rw [Bool.eq_iff_iff, keepB_iff _ _ _ _ (row_mem first n i hi)]
  have hw : ∀ k : Nat, Day.week (rowRef first k).t = (first + 5) / 7 + (((s + k) / 7 : Nat) : Int) := by
    intro k; rw [row_week, ← hs]; omega
  have hmem : ∀ q, q ∈ above Day.week ((rowL first n).map Ref.one) (rowRef first i).one ↔ ∃ k, i < k ∧ k < n ∧ (first + 5) / 7 + (((s + k) / 7 : Nat) : Int) = q := by
    intro q; rw [row_above]; simp only [hw]
  have hown : Day.week (rowRef first i).one.t = (first + 5) / 7 + (((s + i) / 7 : Nat) : Int) := hw i
  have hlast : (¬ Day.week (rowRef first i).one.t ∈ above Day.week ((rowL first n).map Ref.one) (rowRef first i).one) ↔ (i + 1 = n ∨ (s + i + 1) % 7 = 0) := by
    rw [hmem, hown]
    constructor
    · intro h
      by_cases e : i + 1 = n
      · exact .inl e
      · refine .inr ?_
        have h1 : ¬ ((s + (i + 1)) / 7 = (s + i) / 7) := fun c => h ⟨i + 1, by omega, by omega, by rw [c]⟩
        omega
    · rintro h ⟨k, h1, h2, h3⟩
      omega
  have hcount : (i + 1 = n ∨ (s + i + 1) % 7 = 0) → (distinct (above Day.week ((rowL first n).map Ref.one) (rowRef first i).one)).length = (s + n - 1) / 7 - (s + i) / 7 := by
    intro hl
    have hs6 : s < 7 := by omega
    have := distinct_between (l := above Day.week ((rowL first n).map Ref.one) (rowRef first i).one) (a := (first + 5) / 7 + (((s + i) / 7 : Nat) : Int)) (b := (first + 5) / 7 + (((s + n - 1) / 7 : Nat) : Int)) (fun q => by
      rw [hmem]
      constructor
      · rintro ⟨k, h1, h2, rfl⟩
        rcases hl with hl | hl
        · omega
        · omega
      · rintro ⟨h1, h2⟩
        obtain ⟨v, hv⟩ : ∃ v : Nat, q = (first + 5) / 7 + (v : Int) := ⟨(q - (first + 5) / 7).toNat, by omega⟩
        subst hv
        refine ⟨7 * v - s, ?_, ?_, ?_⟩
        · omega
        · omega
        · have : (s + (7 * v - s)) / 7 = v := by omega
          rw [this])
    omega
  unfold wkB
  simp only [Bool.and_eq_true, Bool.or_eq_true, decide_eq_true_eq]
  constructor
  · rintro (h | h | ⟨j, hj, h1, h2⟩)
    · exact absurd (show Pol.chk ⟨0, keep, 0, 0⟩ = 0 by unfold Pol.chk polChk; (repeat rw [if_neg]) <;> simp <;> omega) h
    · have hu : (rowRef first i).u = 0 := rfl
      rw [hu] at h; omega
    · rcases j with _ | _ | _ | j
      · exact absurd h2 (by show ¬ _ < (0 : Int); omega)
      · have hl := hlast.1 h1
        have h2' : ((distinct (above Day.week ((rowL first n).map Ref.one) (rowRef first i).one)).length : Int) < (keep : Int) := h2
        have := hcount hl
        exact ⟨hl, by omega⟩
      · exact absurd h2 (by show ¬ _ < (0 : Int); omega)
      · exact absurd h2 (by show ¬ _ < (0 : Int); omega)
  · rintro ⟨hl, h⟩
    refine .inr (.inr ⟨1, by omega, hlast.2 hl, ?_⟩)
    show ((distinct (above Day.week ((rowL first n).map Ref.one) (rowRef first i).one)).length : Int) < (keep : Int)
    have := hcount hl
    omega

/-- The days that are kept by weeks. -/
def rowAt (s n keep k : Nat) : List Nat := (List.range k).filter (wkB s n keep)
theorem rowAt_succ (s n keep k : Nat) : rowAt s n keep (k + 1) = rowAt s n keep k ++ (if wkB s n keep k then [k] else []) := by
  unfold rowAt
  rw [List.range_succ, List.filter_append]
  cases h : wkB s n keep k <;> simp [h]
def rowOk (n keep : Nat) (l : List Nat) : Bool :=
  decide (l.length ≤ keep) && (decide (n = 0) || decide (0 < l.length)) && (List.range l.length).all fun i =>
    !(decide (0 < i) && decide (i + 1 < l.length) && decide (l.getD i 0 ≠ l.getD (i - 1) 0 + 7)) && !(decide (i + 1 = l.length) && decide (l.getD i 0 + 1 ≠ n))
set_option maxRecDepth 100000 in
theorem rowOk_all : ((List.range 7).all fun s => (List.range 40).all fun n => (List.range 12).all fun k => rowOk n (k + 1) (rowAt s n (k + 1) n)) = true := by decide +kernel
theorem rowOk_at (s n keep : Nat) (hs : s < 7) (hn : n < 40) (hk : 1 ≤ keep ∧ keep ≤ 12) : rowOk n keep (rowAt s n keep n) = true := by
  have h := List.all_eq_true.1 (List.all_eq_true.1 (List.all_eq_true.1 rowOk_all s (List.mem_range.2 hs)) n (List.mem_range.2 hn)) (keep - 1) (List.mem_range.2 (by omega))
  rwa [show keep - 1 + 1 = keep by omega] at h

end Go.Proofs.YtgelaffifjicoaaDoor
