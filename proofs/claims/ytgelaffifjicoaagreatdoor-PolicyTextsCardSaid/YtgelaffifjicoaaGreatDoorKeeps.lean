/-
  PLAIN LAWS: what policy.last keeps, step by step; the first one of a machine is kept.
-/
import Derived.Test.YtgelaffifjicoaaGreatDoorKeep
namespace Go.Proofs.YtgelaffifjicoaaGreatDoor
open Go.RowKit
set_option linter.unusedSimpArgs false
set_option linter.unusedVariables false

theorem ins_mem {α : Type} [DecidableEq α] (x y : α) (S : List α) : y ∈ ins x S ↔ y = x ∨ y ∈ S := by
  unfold ins
  split
  · constructor
    · exact .inr
    · rintro (rfl | h)
      · assumption
      · exact h
  · simp
theorem step_keeps (per : Int → Int) (n : Int) (s : LSt) (x y : One) (h : y ∈ s.kept) : y ∈ (s.step per n x).kept := by
  unfold LSt.step
  split
  · exact (ins_mem _ _ _).2 (.inr h)
  · exact h
theorem fold_keeps (per : Int → Int) (n : Int) (l : List One) (s : LSt) (y : One) (h : y ∈ s.kept) : y ∈ (l.foldl (LSt.step per n) s).kept := by
  induction l generalizing s with
  | nil => exact h
  | cons x l ih => exact ih _ (step_keeps per n s x y h)
theorem lastGo_keeps (per : Int → Int) (n : Int) (l K : List One) (y : One) (h : y ∈ K) : y ∈ (lastGo per n l K).kept := fold_keeps per n l _ y h
theorem keptN_le (p : Pol) (s : List One) (i : Nat) : ∀ j, ∀ y ∈ keptN p s i, y ∈ keptN p s (i + j)
  | 0, y, h => h
  | j + 1, y, h => lastGo_keeps _ _ _ _ _ (keptN_le p s i j y h)

/-- The first one of a machine is kept by any number above zero. -/
theorem fold_first (per : Int → Int) (n : Int) (hn : 0 < n) (m : ByteArray) : ∀ (l : List One) (s : LSt), s.m ≠ some m → (∃ x ∈ l, x.m = m) → ∃ y ∈ l, y.m = m ∧ y ∈ (l.foldl (LSt.step per n) s).kept
  | [], _, _, h => by obtain ⟨x, hx, _⟩ := h; cases hx
  | x :: l, s, hs, h => by
    by_cases hxm : x.m = m
    · refine ⟨x, List.mem_cons_self, hxm, ?_⟩
      rw [List.foldl_cons]
      apply fold_keeps
      have h0 : s.met0 x = [] := by unfold LSt.met0; rw [hxm, if_neg hs]
      unfold LSt.step
      rw [if_pos ⟨by simp [h0], by rw [h0]; simpa using hn⟩]
      exact (ins_mem _ _ _).2 (.inl rfl)
    · obtain ⟨z, hz, hzm⟩ := h
      have hz' : z ∈ l := by
        rcases List.mem_cons.1 hz with rfl | h
        · exact absurd hzm hxm
        · exact h
      obtain ⟨y, hy, hym, hk⟩ := fold_first per n hn m l (s.step per n x) (by rw [step_m]; simpa using hxm) ⟨z, hz', hzm⟩
      exact ⟨y, List.mem_cons_of_mem _ hy, hym, hk⟩

theorem chk_pos (p : Pol) (h : p.chk = 0) : ∃ j, j < 4 ∧ 0 < p.num j := by
  unfold Pol.chk polChk at h
  split at h
  · cases h
  · split at h
    · cases h
    · rename_i h1 h2
      by_cases hd : 0 < p.d
      · exact ⟨0, by omega, hd⟩
      · by_cases hk : 0 < p.k
        · exact ⟨1, by omega, hk⟩
        · by_cases hm : 0 < p.m
          · exact ⟨2, by omega, hm⟩
          · exact ⟨3, by omega, by show 0 < p.y; omega⟩

end Go.Proofs.YtgelaffifjicoaaGreatDoor
