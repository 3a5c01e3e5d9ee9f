/-
  A cell of a list of one-cell values, in the walk's spelling; a Below between worlds that differ in what isn't memory.
-/
import Derived.Test.YtgelaffifjicoaaGreatDoorSorted
namespace Go.Proofs.YtgelaffifjicoaaGreatDoor
open Go.RowKit
set_option linter.unusedSimpArgs false
set_option linter.unusedVariables false

theorem Reads.single {w : World} {B : Nat} {A : Option Addr} {n : Nat} {l : List Value} (h : Reads w B 1 A n l) {k : Nat} (hk : k < n) :
    ∃ b o v, A = some ⟨b, o, none⟩ ∧ l[k]? = some v ∧ b < B ∧ w.cell? ⟨b, o + k, none⟩ = some v := by
  have hl : l.length = n := by have := h.1; omega
  have hkl : k < l.length := by omega
  obtain ⟨b', o', hA, hb', hc⟩ := Reads.elem (k := 1) (f := fun x : Value => [x]) (l := l) (fun _ => rfl) (by omega) (show Reads w B 1 A n (l.flatMap fun x => [x]) from by simpa using h) hl (i := k) hkl
  have h0 := hc 0 (by omega)
  exact ⟨b', o', l[k], hA, List.getElem?_eq_getElem hkl, hb', by simpa using h0⟩
theorem below_like {B : Nat} {a b a' b' : World} (h : Below B a b) (h1 : a'.heap = a.heap := by rfl) (h2 : b'.heap = b.heap := by rfl) (h3 : a'.os = a.os := by rfl) (h4 : b'.os = b.os := by rfl) (h5 : a'.tape = a.tape := by rfl) (h6 : b'.tape = b.tape := by rfl) (h7 : a'.output = a.output := by rfl) (h8 : b'.output = b.output := by rfl) : Below B a' b' :=
  ⟨by rw [h3, h4]; exact h.os, by rw [h5, h6]; exact h.tape, by rw [h7, h8]; exact h.output, by rw [h1, h2]; exact h.size, by rw [h1, h2]; exact h.block⟩

end Go.Proofs.YtgelaffifjicoaaGreatDoor
