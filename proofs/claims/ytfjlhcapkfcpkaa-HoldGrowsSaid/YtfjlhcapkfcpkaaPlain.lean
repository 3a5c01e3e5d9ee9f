/-
  PLAIN LAWS: what stays and what goes.
-/
import Derived.Test.YtfjlhcapkfcpkaaGone
import Derived.Test.YtfjlhcapkfcpkaaKeeps
namespace Go.Proofs.Ytfjlhcapkfcpkaa
open Go.RowKit
set_option linter.unusedSimpArgs false
set_option linter.unusedVariables false

theorem zip_map_self {α β : Type} (l : List α) (f : α → β) : l.zip (l.map f) = l.map fun x => (x, f x) := by
  induction l with
  | nil => rfl
  | cons x l ih => simp [ih]
theorem gone_eq (r : Root) : r.gone = r.refs.filter fun x => !keepB r.pol r.now r.refs x := by
  unfold Root.gone Root.kept keepF goneL
  rw [zip_map_self]
  generalize keepB r.pol r.now r.refs = f
  induction r.refs with
  | nil => rfl
  | cons x l ih =>
    simp only [List.map_cons, List.filter_cons]
    cases f x <;> simp [ih]
theorem stay_eq (r : Root) : r.stay = r.refs.filter (keepB r.pol r.now r.refs) := by
  unfold Root.stay Root.kept keepF stayL
  rw [zip_map_self]
  generalize keepB r.pol r.now r.refs = f
  induction r.refs with
  | nil => rfl
  | cons x l ih =>
    simp only [List.map_cons, List.filter_cons]
    cases f x <;> simp [ih]
theorem stay_gone_len (r : Root) : r.stay.length + r.gone.length = r.refs.length := by
  rw [stay_eq, gone_eq]
  generalize keepB r.pol r.now r.refs = f
  induction r.refs with
  | nil => rfl
  | cons x l ih =>
    simp only [List.filter_cons]
    cases f x <;> simp <;> omega
theorem gone_free (r : Root) {x : Ref} (h : x ∈ r.gone) : ¬ r.now < x.u := by
  rw [gone_eq, List.mem_filter] at h
  intro c
  have := h.2
  unfold keepB at this
  simp [c] at this

/-- Of each machine one stays. -/
theorem stay_one (r : Root) {x : Ref} (h : x ∈ r.refs) : ∃ y ∈ r.stay, y.m = x.m := by
  rw [stay_eq]
  by_cases hc : r.pol.chk = 0
  · obtain ⟨j, hj, hn⟩ := chk_pos r.pol hc
    obtain ⟨y, hy, hym, hk⟩ := fold_first (perN j) (r.pol.num j) hn x.m (srt (r.refs.map Ref.one)) ⟨none, [], keptN r.pol (srt (r.refs.map Ref.one)) j⟩ (by simp) ⟨x.one, (srt_mem _ _).2 (List.mem_map_of_mem h), rfl⟩
    rw [srt_mem] at hy
    obtain ⟨z, hz, rfl⟩ := List.mem_map.1 hy
    refine ⟨z, List.mem_filter.2 ⟨hz, ?_⟩, hym⟩
    have h4 : z.one ∈ keptN r.pol (srt (r.refs.map Ref.one)) 4 := by
      have := keptN_le r.pol (srt (r.refs.map Ref.one)) (j + 1) (3 - j) z.one hk
      rwa [show j + 1 + (3 - j) = 4 by omega] at this
    unfold keepB
    simp [h4]
  · refine ⟨x, List.mem_filter.2 ⟨h, ?_⟩, rfl⟩
    unfold keepB
    simp [hc]

end Go.Proofs.Ytfjlhcapkfcpkaa
