/-
  THE ARGUMENTS OPENED: a root's packs and channels, as far as 'alike' looks at them.
-/
import Derived.Test.YtfjlhcapkfcpkaaAlike
namespace Go.Proofs.Ytfjlhcapkfcpkaa
open Go.RowKit Go.ChangeShapes Go.WideShapes Go.Deep
set_option linter.unusedSimpArgs false
set_option linter.unusedVariables false

section
variable {H : Type} {enc : TypeId × Value → H} {w : World} {base : Nat} {spare : Nat → Bool} {held : Bool}
theorem open_chans {n : Nat} {A : Option Addr} {len cap : Nat} {x : DataW H × List MemPlace} (h : DataW.trod enc Try.prog w base spare held n 26 [.slice A len cap] = some x) :
    Rows1 w w.heap.size 34 59 A len ∧ len ≤ maxLen :=
  open_rows (m := 5) Try.underlying26 (by kernel_rfl) (by decide) (by kernel_rfl) (by decide) (fun cs hc => by
    have hk : Try.prog.cellsOf 59 = 34 := by kernel_rfl
    simp [Value.formed, Try.underlying59, hk, hc]) h
theorem open_places {n : Nat} {A : Option Addr} {len cap : Nat} {x : DataW H × List MemPlace} (h : DataW.trod enc Try.prog w base spare held n 60 [.slice A len cap] = some x) :
    Rows1 w w.heap.size 3 64 A len ∧ len ≤ maxLen :=
  open_rows (m := 5) Try.underlying60 (by kernel_rfl) (by decide) (by kernel_rfl) (by decide) (fun cs hc => by
    have hk : Try.prog.cellsOf 64 = 3 := by kernel_rfl
    simp [Value.formed, Try.underlying64, hk, hc]) h
set_option maxRecDepth 100000 in
theorem open_packs {n : Nat} {A : Option Addr} {len cap : Nat} {x : DataW H × List MemPlace} (h : DataW.trod enc Try.prog w base spare held n 23 [.slice A len cap] = some x) :
    Packs w w.heap.size A len ∧ len ≤ maxLen := by
  rcases open_slice Try.underlying23 h with ⟨h0, _⟩ | ⟨a, len', cap', mm, n', D, Pl, hcs, _, hl, hcm, hmm, _, hi⟩
  · simp only [List.cons.injEq, Value.slice.injEq, and_true] at h0
    obtain ⟨rfl, rfl, rfl⟩ := h0
    exact ⟨fun i hi => absurd hi (by omega), by unfold maxLen; omega⟩
  · simp only [List.cons.injEq, Value.slice.injEq, and_true] at hcs
    obtain ⟨rfl, rfl, rfl⟩ := hcs
    refine ⟨fun i hil => ?_, by omega⟩
    have hle : len ≤ mm := by rw [hmm]; split <;> omega
    have hcell : Try.prog.cellsOf 62 = 2 := by kernel_rfl
    obtain ⟨cs0, hc0, _⟩ := hi 0 (by omega)
    rw [hcell] at hc0
    obtain ⟨_, hcl0, hat0⟩ := World.cells?_some hc0
    have hv1 : w.cell? ((a.add (0 * 2)).add 0) = some (cs0[0]'(by omega)) := (hat0 0 (by omega)).trans (List.getElem?_eq_getElem _)
    rw [Go.Deep.add_add, Nat.zero_mul] at hv1
    obtain ⟨b, o, rfl⟩ := path_none hv1
    obtain ⟨cs', hc, ht⟩ := hi i (by omega)
    rw [hcell] at hc
    obtain ⟨_, hcl, hat⟩ := World.cells?_some hc
    obtain ⟨ys, n2, _, _, _, hyl, hf⟩ := DataW.trod_struct Try.underlying62 ht
    match cs', hcl with
    | [v0, v1], _ =>
      have c9 : Try.prog.cellsOf 9 = 1 := by kernel_rfl
      have c60 : Try.prog.cellsOf 60 = 1 := by kernel_rfl
      match ys, hyl with
      | [y0, y1], _ =>
        have f0 := hf 0 _ rfl; change DataW.trod enc Try.prog w base spare held n2 9 (List.take (Try.prog.cellsOf 9) [v0, v1]) = some y0 at f0; rw [c9] at f0; replace f0 : DataW.trod enc Try.prog w base spare held n2 9 [v0] = some y0 := f0
        have f1 := hf 1 _ rfl; change DataW.trod enc Try.prog w base spare held n2 60 (List.take (Try.prog.cellsOf 60) [v1]) = some y1 at f1; rw [c60] at f1; replace f1 : DataW.trod enc Try.prog w base spare held n2 60 [v1] = some y1 := f1
        obtain ⟨s, e0, _, _⟩ := DataW.trod_string Try.underlying9 f0
        obtain ⟨P, m, c, rfl⟩ : ∃ A n c, v1 = .slice A n c := by
          rcases open_slice Try.underlying60 f1 with ⟨h0, _⟩ | ⟨a, len, cap, _, _, _, _, hcs, _⟩
          · exact ⟨none, 0, 0, by simpa using h0⟩
          · exact ⟨some a, len, cap, by simpa using hcs⟩
        obtain rfl : v0 = .string s := by simpa using e0
        have g0 := (hat 0 (by omega))
        have g1 := (hat 1 (by omega))
        rw [Go.Deep.add_add, Addr.add_mid] at g0 g1
        obtain ⟨hr, hm⟩ := open_places f1
        refine ⟨b, o, s, P, m, c, rfl, ?_, g0, by rw [Nat.add_assoc]; exact g1, hr, hm⟩
        have := World.block_lt_of_cell? w _ hv1
        rwa [block_of_add] at this
end

end Go.Proofs.Ytfjlhcapkfcpkaa
