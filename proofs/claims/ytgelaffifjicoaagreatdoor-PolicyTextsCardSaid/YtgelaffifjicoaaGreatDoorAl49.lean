/-
  The law's example: what is kept of it.
-/
import Derived.Test.YtgelaffifjicoaaGreatDoorPickB
namespace Go.Proofs.YtgelaffifjicoaaGreatDoor
open Go.RowKit
set_option linter.unusedSimpArgs false
set_option linter.unusedVariables false

def exE : ByteArray := ⟨#[]⟩
def ex1 : Ref := ⟨exE, 1, 5000, exE, 0⟩
def ex2 : Ref := ⟨exE, 2, 5100, exE, 0⟩
def ex3 : Ref := ⟨exE, 3, 6000, exE, 0⟩
def ex4 : Ref := ⟨exE, 4, 10000, exE, 0⟩
def exP2 : Pol := ⟨2, 0, 0, 0⟩
theorem exKeep : keepF exP2 [ex1, ex2, ex3, ex4] 0 = [false, false, true, true] := by
  rw [keepF_reckon]
  decide +kernel
theorem ex4_ok : ∀ x ∈ [ex1, ex2, ex3, ex4], x.ok := by
  intro x hx
  simp only [List.mem_cons, List.not_mem_nil, or_false] at hx
  rcases hx with rfl | rfl | rfl | rfl <;> exact ⟨by decide, by unfold okI; decide, by unfold okI; decide, by decide, by unfold okI; decide⟩

end Go.Proofs.YtgelaffifjicoaaGreatDoor
