/-
  THE ARGUMENTS OPENED: a policy, and snapshots with a minute, as cells.
-/
import Derived.Test.YtgelaffifjicoaaGreatDoorOpen0
import Derived.Test.YtgelaffifjicoaaGreatDoorKeep
namespace Go.Proofs.YtgelaffifjicoaaGreatDoor
open Go.RowKit Go.ChangeShapes Go.WideShapes Go.Deep
set_option linter.unusedSimpArgs false
set_option linter.unusedVariables false

section
variable {H : Type} {enc : TypeId × Value → H} {w : World} {base : Nat} {spare : Nat → Bool} {held : Bool}
set_option maxRecDepth 100000 in
theorem open_policy {r : Reach} {b0 : Nat} {v : Value} {d : DataW H} {p : List MemPlace} (hv : Value.okWide Tryz.prog w r b0 23 v) (h : DataW.Trod enc Tryz.prog w base spare held 23 v d p) :
    ∃ q : Pol, v = q.v ∧ okI q.d ∧ okI q.k ∧ okI q.m ∧ okI q.y := by
  obtain ⟨cs, rfl, hsz⟩ := okWide_struct Tryz.underlying23 hv
  obtain ⟨l⟩ := cs
  match l, hsz with
  | [v4, v5, v6, v7], _ =>
    obtain ⟨fuel, f4⟩ := h
    have k3 : Tryz.prog.cellsOf 3 = 1 := by kernel_rfl
    obtain ⟨zs, n', _, _, _, hzl, hp⟩ := DataW.trod_struct Tryz.underlying23 f4
    match zs, hzl with
    | [z0, z1, z2, z3], _ =>
      have p0 := hp 0 _ rfl; change DataW.trod enc Tryz.prog w base spare held n' 3 (List.take (Tryz.prog.cellsOf 3) [v4, v5, v6, v7]) = some z0 at p0; rw [k3] at p0; replace p0 : DataW.trod enc Tryz.prog w base spare held n' 3 [v4] = some z0 := p0
      have p1 := hp 1 _ rfl; change DataW.trod enc Tryz.prog w base spare held n' 3 (List.take (Tryz.prog.cellsOf 3) [v5, v6, v7]) = some z1 at p1; rw [k3] at p1; replace p1 : DataW.trod enc Tryz.prog w base spare held n' 3 [v5] = some z1 := p1
      have p2 := hp 2 _ rfl; change DataW.trod enc Tryz.prog w base spare held n' 3 (List.take (Tryz.prog.cellsOf 3) [v6, v7]) = some z2 at p2; rw [k3] at p2; replace p2 : DataW.trod enc Tryz.prog w base spare held n' 3 [v6] = some z2 := p2
      have p3 := hp 3 _ rfl; change DataW.trod enc Tryz.prog w base spare held n' 3 (List.take (Tryz.prog.cellsOf 3) [v7]) = some z3 at p3; rw [k3] at p3; replace p3 : DataW.trod enc Tryz.prog w base spare held n' 3 [v7] = some z3 := p3
      obtain ⟨j0, q0, _, b0⟩ := DataW.trod_int Tryz.underlying3 p0
      obtain ⟨j1, q1, _, b1⟩ := DataW.trod_int Tryz.underlying3 p1
      obtain ⟨j2, q2, _, b2⟩ := DataW.trod_int Tryz.underlying3 p2
      obtain ⟨j3, q3, _, b3⟩ := DataW.trod_int Tryz.underlying3 p3
      simp only [List.cons.injEq, and_true] at q0 q1 q2 q3
      subst q0 q1 q2 q3
      exact ⟨⟨j0, j1, j2, j3⟩, rfl, okI_of b0, okI_of b1, okI_of b2, okI_of b3⟩
end

end Go.Proofs.YtgelaffifjicoaaGreatDoor
