/-
  THE ARGUMENTS OPENED: snapshots alone; one snapshot; four bytes.
-/
import Derived.Test.YtgelaffifjicoaaDoorOpen0
import Derived.Test.YtgelaffifjicoaaDoorKeep
namespace Go.Proofs.YtgelaffifjicoaaDoor
open Go.RowKit Go.ChangeShapes Go.WideShapes Go.Deep
set_option linter.unusedSimpArgs false
set_option linter.unusedVariables false

theorem u8_of {n : Int} (h : (Lit.int .u8 n).wf = true) : 0 ≤ n ∧ n < 256 := by
  have h1 : IntKind.u8.min = 0 := rfl
  have h2 : IntKind.u8.max = 255 := rfl
  simp [Lit.wf, h1, h2] at h
  omega
section
variable {H : Type} {enc : TypeId × Value → H} {w : World} {base : Nat} {spare : Nat → Bool} {held : Bool}
set_option maxRecDepth 100000 in
theorem open_refs1 {r : Reach} {b0 : Nat} {v : Value} {d : DataW H} {p : List MemPlace} (hv : Value.okWide Tryd.prog w r b0 25 v) (h : DataW.Trod enc Tryd.prog w base spare held 25 v d p) :
    ∃ (A : Option Addr) (cap : Nat) (l : List Ref), v = .slice A l.length cap ∧ Reads w w.heap.size 5 A l.length (l.flatMap Ref.cs) ∧ (∀ x ∈ l, x.ok) ∧ l.length ≤ maxLen := by
  obtain ⟨a, n, c, rfl⟩ := okWide_slice Tryd.underlying25 hv
  obtain ⟨fuel, f⟩ := h
  exact open_refs f
set_option maxRecDepth 100000 in
theorem open_ref {r : Reach} {b0 : Nat} {v : Value} {d : DataW H} {p : List MemPlace} (hv : Value.okWide Tryd.prog w r b0 35 v) (h : DataW.Trod enc Tryd.prog w base spare held 35 v d p) :
    ∃ x : Ref, v = x.v ∧ x.ok := by
  obtain ⟨cs, rfl, hsz⟩ := okWide_struct Tryd.underlying35 hv
  obtain ⟨l⟩ := cs
  match l, hsz with
  | [v0, v1, v2, v3, v4], _ =>
    obtain ⟨fuel, ht⟩ := h
    obtain ⟨ys, n', _, _, _, hyl, hf⟩ := DataW.trod_struct Tryd.underlying35 ht
    have c9 : Tryd.prog.cellsOf 9 = 1 := by kernel_rfl
    have c3 : Tryd.prog.cellsOf 3 = 1 := by kernel_rfl
    have c2 : Tryd.prog.cellsOf 2 = 1 := by kernel_rfl
    match ys, hyl with
    | [y0, y1, y2, y3, y4], _ =>
      have f0 := hf 0 _ rfl; change DataW.trod enc Tryd.prog w base spare held n' 9 (List.take (Tryd.prog.cellsOf 9) [v0, v1, v2, v3, v4]) = some y0 at f0; rw [c9] at f0; replace f0 : DataW.trod enc Tryd.prog w base spare held n' 9 [v0] = some y0 := f0
      have f1 := hf 1 _ rfl; change DataW.trod enc Tryd.prog w base spare held n' 3 (List.take (Tryd.prog.cellsOf 3) [v1, v2, v3, v4]) = some y1 at f1; rw [c3] at f1; replace f1 : DataW.trod enc Tryd.prog w base spare held n' 3 [v1] = some y1 := f1
      have f2 := hf 2 _ rfl; change DataW.trod enc Tryd.prog w base spare held n' 2 (List.take (Tryd.prog.cellsOf 2) [v2, v3, v4]) = some y2 at f2; rw [c2] at f2; replace f2 : DataW.trod enc Tryd.prog w base spare held n' 2 [v2] = some y2 := f2
      have f3 := hf 3 _ rfl; change DataW.trod enc Tryd.prog w base spare held n' 9 (List.take (Tryd.prog.cellsOf 9) [v3, v4]) = some y3 at f3; rw [c9] at f3; replace f3 : DataW.trod enc Tryd.prog w base spare held n' 9 [v3] = some y3 := f3
      have f4 := hf 4 _ rfl; change DataW.trod enc Tryd.prog w base spare held n' 2 (List.take (Tryd.prog.cellsOf 2) [v4]) = some y4 at f4; rw [c2] at f4; replace f4 : DataW.trod enc Tryd.prog w base spare held n' 2 [v4] = some y4 := f4
      obtain ⟨s0, e0, _, b0⟩ := DataW.trod_string Tryd.underlying9 f0
      obtain ⟨i1, e1, _, b1⟩ := DataW.trod_int Tryd.underlying3 f1
      obtain ⟨i2, e2, _, b2⟩ := DataW.trod_int Tryd.underlying2 f2
      obtain ⟨s3, e3, _, b3⟩ := DataW.trod_string Tryd.underlying9 f3
      obtain ⟨i4, e4, _, b4⟩ := DataW.trod_int Tryd.underlying2 f4
      simp only [List.cons.injEq, and_true] at e0 e1 e2 e3 e4
      subst e0 e1 e2 e3 e4
      exact ⟨⟨s0, i1, i2, s3, i4⟩, rfl, b0, okI_of b1, okI_of b2, b3, okI_of b4⟩
end

end Go.Proofs.YtgelaffifjicoaaDoor
