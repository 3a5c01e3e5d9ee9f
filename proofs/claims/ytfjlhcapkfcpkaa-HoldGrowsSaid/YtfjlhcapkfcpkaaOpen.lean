/-
  THE ARGUMENTS OPENED: a root that comes in, as cells.
-/
import Derived.Test.YtfjlhcapkfcpkaaOpen0
import Derived.Test.YtfjlhcapkfcpkaaAlive
namespace Go.Proofs.Ytfjlhcapkfcpkaa
open Go.RowKit Go.ChangeShapes Go.WideShapes Go.Deep
set_option linter.unusedSimpArgs false
set_option linter.unusedVariables false

section
variable {H : Type} {enc : TypeId × Value → H} {w : World} {base : Nat} {spare : Nat → Bool} {held : Bool}
set_option maxRecDepth 100000 in
/-- A root, opened. -/
theorem open_root {r : Reach} {b0 : Nat} {v : Value} {d : DataW H} {p : List MemPlace} (hv : Value.okWide Try.prog w r b0 28 v) (h : DataW.Trod enc Try.prog w base spare held 28 v d p) :
    ∃ (r : Root) (n : Nat) (y3 y8 : DataW H × List MemPlace), v = r.v ∧ Reads w w.heap.size 5 r.A r.refs.length (r.refs.flatMap Ref.cs) ∧ (∀ x ∈ r.refs, x.ok) ∧ r.refs.length ≤ maxLen ∧ okI r.now ∧
      DataW.trod enc Try.prog w base spare held n 23 [.slice r.A3 r.n3 r.c3] = some y3 ∧ DataW.trod enc Try.prog w base spare held n 26 [.slice r.A8 r.n8 r.c8] = some y8 := by
  obtain ⟨cs, rfl, hsz⟩ := okWide_struct Try.underlying28 hv
  obtain ⟨l⟩ := cs
  match l, hsz with
  | [v0, v1, v2, v3, v4, v5, v6, v7, v8], _ =>
    obtain ⟨fuel, hf⟩ := h
    obtain ⟨ys, n, _, _, _, hyl, hg⟩ := DataW.trod_struct Try.underlying28 hf
    have k3 : Try.prog.cellsOf 3 = 1 := by kernel_rfl
    have k2 : Try.prog.cellsOf 2 = 1 := by kernel_rfl
    have k22 : Try.prog.cellsOf 22 = 1 := by kernel_rfl
    have k23 : Try.prog.cellsOf 23 = 1 := by kernel_rfl
    have k26 : Try.prog.cellsOf 26 = 1 := by kernel_rfl
    have k25 : Try.prog.cellsOf 25 = 4 := by kernel_rfl
    match ys, hyl with
    | [y0, y1, y2, y3, y4, y5], _ =>
      have f0 := hg 0 _ rfl; change DataW.trod enc Try.prog w base spare held n 3 (List.take (Try.prog.cellsOf 3) [v0, v1, v2, v3, v4, v5, v6, v7, v8]) = some y0 at f0; rw [k3] at f0; replace f0 : DataW.trod enc Try.prog w base spare held n 3 [v0] = some y0 := f0
      have f1 := hg 1 _ rfl; change DataW.trod enc Try.prog w base spare held n 2 (List.take (Try.prog.cellsOf 2) [v1, v2, v3, v4, v5, v6, v7, v8]) = some y1 at f1; rw [k2] at f1; replace f1 : DataW.trod enc Try.prog w base spare held n 2 [v1] = some y1 := f1
      have f2 := hg 2 _ rfl; change DataW.trod enc Try.prog w base spare held n 22 (List.take (Try.prog.cellsOf 22) [v2, v3, v4, v5, v6, v7, v8]) = some y2 at f2; rw [k22] at f2; replace f2 : DataW.trod enc Try.prog w base spare held n 22 [v2] = some y2 := f2
      have f3 := hg 3 _ rfl; change DataW.trod enc Try.prog w base spare held n 23 (List.take (Try.prog.cellsOf 23) [v3, v4, v5, v6, v7, v8]) = some y3 at f3; rw [k23] at f3; replace f3 : DataW.trod enc Try.prog w base spare held n 23 [v3] = some y3 := f3
      have f4 := hg 4 _ rfl; change DataW.trod enc Try.prog w base spare held n 25 (List.take (Try.prog.cellsOf 25) [v4, v5, v6, v7, v8]) = some y4 at f4; rw [k25] at f4; replace f4 : DataW.trod enc Try.prog w base spare held n 25 [v4, v5, v6, v7] = some y4 := f4
      have f5 := hg 5 _ rfl; change DataW.trod enc Try.prog w base spare held n 26 (List.take (Try.prog.cellsOf 26) [v8]) = some y5 at f5; rw [k26] at f5; replace f5 : DataW.trod enc Try.prog w base spare held n 26 [v8] = some y5 := f5
      obtain ⟨i0, e0, _, b0⟩ := DataW.trod_int Try.underlying3 f0
      obtain ⟨i1, e1, _, b1⟩ := DataW.trod_int Try.underlying2 f1
      obtain ⟨A, cap, refs, rfl, hr, hok, hmx⟩ := open_refs f2
      obtain ⟨A3, n3, c3, rfl⟩ : ∃ A n c, v3 = .slice A n c := by
        rcases open_slice Try.underlying23 f3 with ⟨h0, _⟩ | ⟨a, len, cap, _, _, _, _, hcs, _⟩
        · exact ⟨none, 0, 0, by simpa using h0⟩
        · exact ⟨some a, len, cap, by simpa using hcs⟩
      obtain ⟨A8, n8, c8, rfl⟩ : ∃ A n c, v8 = .slice A n c := by
        rcases open_slice Try.underlying26 f5 with ⟨h0, _⟩ | ⟨a, len, cap, _, _, _, _, hcs, _⟩
        · exact ⟨none, 0, 0, by simpa using h0⟩
        · exact ⟨some a, len, cap, by simpa using hcs⟩
      obtain ⟨zs, n', _, _, _, hzl, hp⟩ := DataW.trod_struct Try.underlying25 f4
      match zs, hzl with
      | [z0, z1, z2, z3], _ =>
        have p0 := hp 0 _ rfl; change DataW.trod enc Try.prog w base spare held n' 3 (List.take (Try.prog.cellsOf 3) [v4, v5, v6, v7]) = some z0 at p0; rw [k3] at p0; replace p0 : DataW.trod enc Try.prog w base spare held n' 3 [v4] = some z0 := p0
        have p1 := hp 1 _ rfl; change DataW.trod enc Try.prog w base spare held n' 3 (List.take (Try.prog.cellsOf 3) [v5, v6, v7]) = some z1 at p1; rw [k3] at p1; replace p1 : DataW.trod enc Try.prog w base spare held n' 3 [v5] = some z1 := p1
        have p2 := hp 2 _ rfl; change DataW.trod enc Try.prog w base spare held n' 3 (List.take (Try.prog.cellsOf 3) [v6, v7]) = some z2 at p2; rw [k3] at p2; replace p2 : DataW.trod enc Try.prog w base spare held n' 3 [v6] = some z2 := p2
        have p3 := hp 3 _ rfl; change DataW.trod enc Try.prog w base spare held n' 3 (List.take (Try.prog.cellsOf 3) [v7]) = some z3 at p3; rw [k3] at p3; replace p3 : DataW.trod enc Try.prog w base spare held n' 3 [v7] = some z3 := p3
        obtain ⟨j0, q0, _, _⟩ := DataW.trod_int Try.underlying3 p0
        obtain ⟨j1, q1, _, _⟩ := DataW.trod_int Try.underlying3 p1
        obtain ⟨j2, q2, _, _⟩ := DataW.trod_int Try.underlying3 p2
        obtain ⟨j3, q3, _, _⟩ := DataW.trod_int Try.underlying3 p3
        simp only [List.cons.injEq, and_true] at e0 e1 q0 q1 q2 q3
        subst e0 e1 q0 q1 q2 q3
        exact ⟨⟨i0, i1, A, cap, refs, A3, n3, c3, ⟨j0, j1, j2, j3⟩, A8, n8, c8⟩, n, y3, y5, rfl, hr, hok, hmx, okI_of b1, f3, f5⟩
end

end Go.Proofs.Ytfjlhcapkfcpkaa
