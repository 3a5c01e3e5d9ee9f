/-
  PLAIN LAW: what is kept with one snapshot more, a later one of its machine.
-/
import Derived.Test.YtgelaffifjicoaaDoorPick
namespace Go.Proofs.YtgelaffifjicoaaDoor
open Go.RowKit
set_option linter.unusedSimpArgs false
set_option linter.unusedVariables false

theorem picked_same {per : Int → Int} {n : Int} {L L' : List One} {y : One} (h : ∀ z, later z y → (z ∈ L ↔ z ∈ L')) (hp : picked per n L y) : picked per n L' y := by
  have hs : ∀ q, q ∈ above per L' y → q ∈ above per L y := by
    intro q hq
    obtain ⟨z, hz, hl, he⟩ := (above_mem per L' y q).1 hq
    exact (above_mem per L y q).2 ⟨z, (h z hl).2 hz, hl, he⟩
  exact ⟨fun c => hp.1 (hs _ c), by have := distinct_le hs; have := hp.2; omega⟩
/-- What isn't kept isn't kept either with a snapshot more. -/
theorem keep_drop (p : Pol) (now : Int) (l : List Ref) (x y : Ref) (hy : y ∈ l) (h : keepB p now (l ++ [x]) y = true) : keepB p now l y = true := by
  rw [keepB_iff p now _ y (List.mem_append_left _ hy)] at h
  rw [keepB_iff p now l y hy]
  rcases h with h | h | ⟨j, hj, h⟩
  · exact .inl h
  · exact .inr (.inl h)
  · exact .inr (.inr ⟨j, hj, picked_mono (fun z hz => by rw [List.map_append]; exact List.mem_append_left _ hz) h⟩)
/-- What others have plays no part. -/
theorem keep_other (p : Pol) (now : Int) (l : List Ref) (x y : Ref) (hy : y ∈ l) (hm : y.m ≠ x.m) : keepB p now (l ++ [x]) y = keepB p now l y := by
  rw [Bool.eq_iff_iff, keepB_iff p now _ y (List.mem_append_left _ hy), keepB_iff p now l y hy]
  have hz : ∀ z, later z y.one → (z ∈ l.map Ref.one ↔ z ∈ (l ++ [x]).map Ref.one) := by
    intro z hl
    rw [List.map_append, List.mem_append]
    constructor
    · exact .inl
    · rintro (h | h)
      · exact h
      · simp only [List.map_cons, List.map_nil, List.mem_singleton] at h
        subst h
        exact absurd hl.1.symm hm
  refine or_congr Iff.rfl (or_congr Iff.rfl ⟨?_, ?_⟩)
  · rintro ⟨j, hj, h⟩; exact ⟨j, hj, picked_same (fun z hl => (hz z hl).symm) h⟩
  · rintro ⟨j, hj, h⟩; exact ⟨j, hj, picked_same hz h⟩
/-- The last one of its machine is kept. -/
theorem keep_last (p : Pol) (now : Int) (l : List Ref) (x : Ref) (h : ∀ y ∈ l, y.m = x.m → ¬ (x.t < y.t ∨ (y.t = x.t ∧ x.n ≤ y.n))) : keepB p now (l ++ [x]) x = true := by
  rw [keepB_iff p now _ x (by simp)]
  by_cases hp : p.chk = 0
  · obtain ⟨j, hj, hn⟩ := chk_pos p hp
    have he : above (perN j) ((l ++ [x]).map Ref.one) x.one = [] := by
      rw [List.eq_nil_iff_forall_not_mem]
      intro q hq
      obtain ⟨z, hz, hl, _⟩ := (above_mem _ _ _ q).1 hq
      obtain ⟨y, hy, rfl⟩ := List.mem_map.1 hz
      obtain ⟨hm, hl⟩ := hl
      rcases List.mem_append.1 hy with hy | hy
      · refine h y hy hm ?_
        rcases hl with c | ⟨c, d⟩
        · exact .inl c
        · exact .inr ⟨c, Int.le_of_lt d⟩
      · rcases List.mem_singleton.1 hy with rfl
        rcases hl with c | ⟨_, d⟩
        · exact absurd c (Int.lt_irrefl _)
        · exact absurd d (Int.lt_irrefl _)
    refine .inr (.inr ⟨j, hj, ?_, ?_⟩)
    · rw [he]; simp
    · rw [he]; simpa [distinct] using hn
  · exact .inl hp

end Go.Proofs.YtgelaffifjicoaaDoor
