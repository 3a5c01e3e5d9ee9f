/-
  THE ARGUMENTS OPENED: a policy, and snapshots with a minute, as cells.
-/
import Derived.Test.YtgelaffifjicoaaDoorOpen0
import Derived.Test.YtgelaffifjicoaaDoorKeep
namespace Go.Proofs.YtgelaffifjicoaaDoor
open Go.RowKit Go.ChangeShapes Go.WideShapes Go.Deep
set_option linter.unusedSimpArgs false
set_option linter.unusedVariables false

section
variable {H : Type} {enc : TypeId × Value → H} {w : World} {base : Nat} {spare : Nat → Bool} {held : Bool}
set_option maxRecDepth 100000 in
theorem open_policy {r : Reach} {b0 : Nat} {v : Value} {d : DataW H} {p : List MemPlace} (hv : Value.okWide Tryd.prog w r b0 23 v) (h : DataW.Trod enc Tryd.prog w base spare held 23 v d p) :
    ∃ q : Pol, v = q.v ∧ okI q.d ∧ okI q.k ∧ okI q.m ∧ okI q.y := by
  obtain ⟨cs, rfl, hsz⟩ := okWide_struct Tryd.underlying23 hv
  obtain ⟨l⟩ := cs
  match l, hsz with
  | [v4, v5, v6, v7], _ =>
    obtain ⟨fuel, f4⟩ := h
    have k3 : Tryd.prog.cellsOf 3 = 1 := by kernel_rfl
    obtain ⟨zs, n', _, _, _, hzl, hp⟩ := DataW.trod_struct Tryd.underlying23 f4
    match zs, hzl with
    | [z0, z1, z2, z3], _ =>
      have p0 := hp 0 _ rfl; change DataW.trod enc Tryd.prog w base spare held n' 3 (List.take (Tryd.prog.cellsOf 3) [v4, v5, v6, v7]) = some z0 at p0; rw [k3] at p0; replace p0 : DataW.trod enc Tryd.prog w base spare held n' 3 [v4] = some z0 := p0
      have p1 := hp 1 _ rfl; change DataW.trod enc Tryd.prog w base spare held n' 3 (List.take (Tryd.prog.cellsOf 3) [v5, v6, v7]) = some z1 at p1; rw [k3] at p1; replace p1 : DataW.trod enc Tryd.prog w base spare held n' 3 [v5] = some z1 := p1
      have p2 := hp 2 _ rfl; change DataW.trod enc Tryd.prog w base spare held n' 3 (List.take (Tryd.prog.cellsOf 3) [v6, v7]) = some z2 at p2; rw [k3] at p2; replace p2 : DataW.trod enc Tryd.prog w base spare held n' 3 [v6] = some z2 := p2
      have p3 := hp 3 _ rfl; change DataW.trod enc Tryd.prog w base spare held n' 3 (List.take (Tryd.prog.cellsOf 3) [v7]) = some z3 at p3; rw [k3] at p3; replace p3 : DataW.trod enc Tryd.prog w base spare held n' 3 [v7] = some z3 := p3
      obtain ⟨j0, q0, _, b0⟩ := DataW.trod_int Tryd.underlying3 p0
      obtain ⟨j1, q1, _, b1⟩ := DataW.trod_int Tryd.underlying3 p1
      obtain ⟨j2, q2, _, b2⟩ := DataW.trod_int Tryd.underlying3 p2
      obtain ⟨j3, q3, _, b3⟩ := DataW.trod_int Tryd.underlying3 p3
      simp only [List.cons.injEq, and_true] at q0 q1 q2 q3
      subst q0 q1 q2 q3
      exact ⟨⟨j0, j1, j2, j3⟩, rfl, okI_of b0, okI_of b1, okI_of b2, okI_of b3⟩
set_option maxRecDepth 100000 in
theorem open_by {r : Reach} {b0 : Nat} {v : Value} {d : DataW H} {p : List MemPlace} (hv : Value.okWide Tryd.prog w r b0 27 v) (h : DataW.Trod enc Tryd.prog w base spare held 27 v d p) :
    ∃ (A : Option Addr) (cap : Nat) (l : List Ref) (now : Int), v = .agg #[.slice A l.length cap, .int .i64 now] ∧ Reads w w.heap.size 5 A l.length (l.flatMap Ref.cs) ∧ (∀ x ∈ l, x.ok) ∧ l.length ≤ maxLen ∧ okI now := by
  obtain ⟨cs, rfl, hsz⟩ := okWide_struct Tryd.underlying27 hv
  obtain ⟨l⟩ := cs
  match l, hsz with
  | [v0, v1], _ =>
    obtain ⟨fuel, f4⟩ := h
    have k1 : Tryd.prog.cellsOf 25 = 1 := by kernel_rfl
    have k2 : Tryd.prog.cellsOf 2 = 1 := by kernel_rfl
    obtain ⟨zs, n', _, _, _, hzl, hp⟩ := DataW.trod_struct Tryd.underlying27 f4
    match zs, hzl with
    | [z0, z1], _ =>
      have p0 := hp 0 _ rfl; change DataW.trod enc Tryd.prog w base spare held n' 25 (List.take (Tryd.prog.cellsOf 25) [v0, v1]) = some z0 at p0; rw [k1] at p0; replace p0 : DataW.trod enc Tryd.prog w base spare held n' 25 [v0] = some z0 := p0
      have p1 := hp 1 _ rfl; change DataW.trod enc Tryd.prog w base spare held n' 2 (List.take (Tryd.prog.cellsOf 2) [v1]) = some z1 at p1; rw [k2] at p1; replace p1 : DataW.trod enc Tryd.prog w base spare held n' 2 [v1] = some z1 := p1
      obtain ⟨A, cap, refs, rfl, hr, hok, hmx⟩ := open_refs p0
      obtain ⟨j1, q1, _, b1⟩ := DataW.trod_int Tryd.underlying2 p1
      simp only [List.cons.injEq, and_true] at q1
      subst q1
      exact ⟨A, cap, refs, j1, rfl, hr, hok, hmx, okI_of b1⟩
end

end Go.Proofs.YtgelaffifjicoaaDoor
