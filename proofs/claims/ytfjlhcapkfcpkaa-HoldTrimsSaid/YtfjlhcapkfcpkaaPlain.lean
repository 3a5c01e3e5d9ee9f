/-
  PLAIN LAWS: what stays and what goes.
-/
import Derived.Test.YtfjlhcapkfcpkaaGone
namespace Go.Proofs.Ytfjlhcapkfcpkaa
open Go.RowKit
set_option linter.unusedSimpArgs false
set_option linter.unusedVariables false

theorem zip_map_self {α β : Type} (l : List α) (f : α → β) : l.zip (l.map f) = l.map fun x => (x, f x) := by
  induction l with
  | nil => rfl
  | cons x l ih => simp [ih]
theorem gone_eq (r : Root) : r.gone = r.refs.filter fun x => !keepB r.pol r.now r.refs x := by
  unfold Root.gone Root.kept keepF goneL
  rw [zip_map_self]
  generalize keepB r.pol r.now r.refs = f
  induction r.refs with
  | nil => rfl
  | cons x l ih =>
    simp only [List.map_cons, List.filter_cons]
    cases f x <;> simp [ih]
theorem stay_eq (r : Root) : r.stay = r.refs.filter (keepB r.pol r.now r.refs) := by
  unfold Root.stay Root.kept keepF stayL
  rw [zip_map_self]
  generalize keepB r.pol r.now r.refs = f
  induction r.refs with
  | nil => rfl
  | cons x l ih =>
    simp only [List.map_cons, List.filter_cons]
    cases f x <;> simp [ih]
theorem stay_gone_len (r : Root) : r.stay.length + r.gone.length = r.refs.length := by
  rw [stay_eq, gone_eq]
  generalize keepB r.pol r.now r.refs = f
  induction r.refs with
  | nil => rfl
  | cons x l ih =>
    simp only [List.filter_cons]
    cases f x <;> simp <;> omega
theorem gone_free (r : Root) {x : Ref} (h : x ∈ r.gone) : ¬ r.now < x.u := by
  rw [gone_eq, List.mem_filter] at h
  intro c
  have := h.2
  unfold keepB at this
  simp [c] at this

theorem ins_mem {α : Type} [DecidableEq α] (x y : α) (S : List α) : y ∈ ins x S ↔ y = x ∨ y ∈ S := by
  unfold ins
  split
  · constructor
    · exact .inr
    · rintro (rfl | h)
      · assumption
      · exact h
  · simp
theorem step_keeps (per : Int → Int) (n : Int) (s : LSt) (x y : One) (h : y ∈ s.kept) : y ∈ (s.step per n x).kept := by
  unfold LSt.step
  split
  · exact (ins_mem _ _ _).2 (.inr h)
  · exact h
theorem fold_keeps (per : Int → Int) (n : Int) (l : List One) (s : LSt) (y : One) (h : y ∈ s.kept) : y ∈ (l.foldl (LSt.step per n) s).kept := by
  induction l generalizing s with
  | nil => exact h
  | cons x l ih => exact ih _ (step_keeps per n s x y h)
theorem lastGo_keeps (per : Int → Int) (n : Int) (l K : List One) (y : One) (h : y ∈ K) : y ∈ (lastGo per n l K).kept := fold_keeps per n l _ y h
theorem keptN_le (p : Pol) (s : List One) (i : Nat) : ∀ j, ∀ y ∈ keptN p s i, y ∈ keptN p s (i + j)
  | 0, y, h => h
  | j + 1, y, h => lastGo_keeps _ _ _ _ _ (keptN_le p s i j y h)

/-- The first one of a machine is kept by any number above zero. -/
theorem fold_first (per : Int → Int) (n : Int) (hn : 0 < n) (m : ByteArray) : ∀ (l : List One) (s : LSt), s.m ≠ some m → (∃ x ∈ l, x.m = m) → ∃ y ∈ l, y.m = m ∧ y ∈ (l.foldl (LSt.step per n) s).kept
  | [], _, _, h => by obtain ⟨x, hx, _⟩ := h; cases hx
  | x :: l, s, hs, h => by
    by_cases hxm : x.m = m
    · refine ⟨x, List.mem_cons_self, hxm, ?_⟩
      rw [List.foldl_cons]
      apply fold_keeps
      have h0 : s.met0 x = [] := by unfold LSt.met0; rw [hxm, if_neg hs]
      unfold LSt.step
      rw [if_pos ⟨by simp [h0], by rw [h0]; simpa using hn⟩]
      exact (ins_mem _ _ _).2 (.inl rfl)
    · obtain ⟨z, hz, hzm⟩ := h
      have hz' : z ∈ l := by
        rcases List.mem_cons.1 hz with rfl | h
        · exact absurd hzm hxm
        · exact h
      obtain ⟨y, hy, hym, hk⟩ := fold_first per n hn m l (s.step per n x) (by rw [step_m]; simpa using hxm) ⟨z, hz', hzm⟩
      exact ⟨y, List.mem_cons_of_mem _ hy, hym, hk⟩

theorem chk_pos (p : Pol) (h : p.chk = 0) : ∃ j, j < 4 ∧ 0 < p.num j := by
  unfold Pol.chk polChk at h
  split at h
  · cases h
  · split at h
    · cases h
    · rename_i h1 h2
      by_cases hd : 0 < p.d
      · exact ⟨0, by omega, hd⟩
      · by_cases hk : 0 < p.k
        · exact ⟨1, by omega, hk⟩
        · by_cases hm : 0 < p.m
          · exact ⟨2, by omega, hm⟩
          · exact ⟨3, by omega, by show 0 < p.y; omega⟩

/-- Of each machine one stays. -/
theorem stay_one (r : Root) {x : Ref} (h : x ∈ r.refs) : ∃ y ∈ r.stay, y.m = x.m := by
  rw [stay_eq]
  by_cases hc : r.pol.chk = 0
  · obtain ⟨j, hj, hn⟩ := chk_pos r.pol hc
    obtain ⟨y, hy, hym, hk⟩ := fold_first (perN j) (r.pol.num j) hn x.m (srt (r.refs.map Ref.one)) ⟨none, [], keptN r.pol (srt (r.refs.map Ref.one)) j⟩ (by simp) ⟨x.one, (srt_mem _ _).2 (List.mem_map_of_mem h), rfl⟩
    rw [srt_mem] at hy
    obtain ⟨z, hz, rfl⟩ := List.mem_map.1 hy
    refine ⟨z, List.mem_filter.2 ⟨hz, ?_⟩, hym⟩
    have h4 : z.one ∈ keptN r.pol (srt (r.refs.map Ref.one)) 4 := by
      have := keptN_le r.pol (srt (r.refs.map Ref.one)) (j + 1) (3 - j) z.one hk
      rwa [show j + 1 + (3 - j) = 4 by omega] at this
    unfold keepB
    simp [h4]
  · refine ⟨x, List.mem_filter.2 ⟨h, ?_⟩, rfl⟩
    unfold keepB
    simp [hc]

end Go.Proofs.Ytfjlhcapkfcpkaa
