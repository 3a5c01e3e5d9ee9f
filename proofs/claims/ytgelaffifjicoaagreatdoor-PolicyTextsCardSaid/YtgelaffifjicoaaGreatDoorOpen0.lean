/-
  THE ARGUMENTS OPENED: a list of snapshots that comes in, as cells.
-/
import Derived.ProofKit
import Derived.Deep.Slices
import Derived.Deep.Fields
import Derived.ChangeSame
import Derived.Test.YtgelaffifjicoaaGreatDoorKeys
import Derived.Test.YtgelaffifjicoaaGreatDoorSorted
namespace Go.Proofs.YtgelaffifjicoaaGreatDoor
open Go.RowKit Go.ChangeShapes Go.WideShapes Go.Deep
set_option linter.unusedSimpArgs false
set_option linter.unusedVariables false

theorem list_of {α : Type} (n : Nat) (P : Nat → α → Prop) (h : ∀ i, i < n → ∃ x, P i x) : ∃ l : List α, l.length = n ∧ ∀ i (hi : i < l.length), P i l[i] := by
  induction n with
  | zero => exact ⟨[], rfl, fun i hi => absurd hi (by simp)⟩
  | succ n ih =>
    obtain ⟨l, hl, hP⟩ := ih (fun i hi => h i (by omega))
    obtain ⟨x, hx⟩ := h n (by omega)
    refine ⟨l ++ [x], by simp [hl], fun i hi => ?_⟩
    by_cases hin : i < l.length
    · rw [List.getElem_append_left hin]; exact hP i hin
    · have : i = l.length := by simp at hi; omega
      subst this
      simp only [List.getElem_concat_length]
      rw [hl]; exact hx

theorem Reads.of_elems {α : Type} {f : α → List Value} {k : Nat} (hk : ∀ x, (f x).length = k) (k0 : 0 < k) {w : World} {ad : Addr} {l : List α} {n : Nat} (hl : l.length = n)
    (hc : ∀ i (hi : i < l.length) j, j < k → w.cell? (ad.add (i * k + j)) = (f l[i])[j]?) : Reads w w.heap.size k (some ad) n (l.flatMap f) := by
  have hlen : (l.flatMap f).length = l.length * k := by
    clear hc hl
    induction l with
    | nil => simp
    | cons x l ih => simp [hk, ih, Nat.add_mul, Nat.add_comm]
  refine ⟨by rw [hlen, hl], fun hn => ⟨ad, rfl, ?_, fun j u hu => ?_⟩⟩
  · have h0 := hc 0 (by omega) 0 k0
    rw [Nat.zero_mul, Nat.zero_add, List.getElem?_eq_getElem (by rw [hk]; exact k0)] at h0
    have := World.block_lt_of_cell? w _ h0
    rwa [block_of_add] at this
  · have hj : j < l.length * k := by
      have := (List.getElem?_eq_some_iff.1 hu).1
      omega
    have hi : j / k < l.length := Nat.div_lt_of_lt_mul (by rw [Nat.mul_comm]; exact hj)
    have hm : j % k < k := Nat.mod_lt _ k0
    have e : j = j / k * k + j % k := by rw [Nat.mul_comm]; exact (Nat.div_add_mod j k).symm
    rw [e] at hu ⊢
    rw [hc _ hi _ hm, ← flat_at f k hk l _ _ hi hm]
    exact hu

section
variable {H : Type} {enc : TypeId × Value → H} {w : World} {base : Nat} {spare : Nat → Bool} {held : Bool}

theorem okI_of {n : Int} (h : (Lit.int .i64 n).wf = true) : okI n := by
  have h1 : IntKind.i64.min = -9223372036854775808 := rfl
  have h2 : IntKind.i64.max = 9223372036854775807 := rfl
  simp [Lit.wf, h1, h2] at h
  unfold okI
  omega

set_option maxRecDepth 100000 in
theorem open_refs {fuel : Nat} {c : Value} {x : DataW H × List MemPlace} (h : DataW.trod enc Tryz.prog w base spare held fuel 35 [c] = some x) :
    ∃ (A : Option Addr) (cap : Nat) (l : List Ref), c = .slice A l.length cap ∧ Reads w w.heap.size 5 A l.length (l.flatMap Ref.cs) ∧ (∀ x ∈ l, x.ok) ∧ l.length ≤ maxLen := by
  rcases open_slice Tryz.underlying35 h with ⟨h0, _⟩ | ⟨a, len, cap, m, n, D, Pl, hcs, hb, hl, hm, hmm, hx, hi⟩
  · obtain rfl : c = .slice none 0 0 := by simpa using h0
    exact ⟨none, 0, [], rfl, Reads.none_, fun x hx => absurd hx (by simp), by simp⟩
  · obtain rfl : c = .slice (some a) len cap := by simpa using hcs
    have hlm : len ≤ m := by rw [hmm]; split <;> omega
    have hcell : Tryz.prog.cellsOf 34 = 5 := by kernel_rfl
    obtain ⟨l, hll, hP⟩ := list_of len (fun i (x : Ref) => x.ok ∧ ∀ j, j < 5 → w.cell? (a.add (i * 5 + j)) = x.cs[j]?) (fun i him => by
      obtain ⟨cs', hc, ht⟩ := hi i (by omega)
      rw [hcell] at hc
      obtain ⟨_, hcl, hat⟩ := World.cells?_some hc
      obtain ⟨ys, n', _, _, _, hyl, hf⟩ := DataW.trod_struct Tryz.underlying34 ht
      match cs', hcl with
      | [v0, v1, v2, v3, v4], _ =>
        have c9 : Tryz.prog.cellsOf 9 = 1 := by kernel_rfl
        have c3 : Tryz.prog.cellsOf 3 = 1 := by kernel_rfl
        have c2 : Tryz.prog.cellsOf 2 = 1 := by kernel_rfl
        match ys, hyl with
        | [y0, y1, y2, y3, y4], _ =>
          have f0 := hf 0 _ rfl; change DataW.trod enc Tryz.prog w base spare held n' 9 (List.take (Tryz.prog.cellsOf 9) [v0, v1, v2, v3, v4]) = some y0 at f0; rw [c9] at f0; replace f0 : DataW.trod enc Tryz.prog w base spare held n' 9 [v0] = some y0 := f0
          have f1 := hf 1 _ rfl; change DataW.trod enc Tryz.prog w base spare held n' 3 (List.take (Tryz.prog.cellsOf 3) [v1, v2, v3, v4]) = some y1 at f1; rw [c3] at f1; replace f1 : DataW.trod enc Tryz.prog w base spare held n' 3 [v1] = some y1 := f1
          have f2 := hf 2 _ rfl; change DataW.trod enc Tryz.prog w base spare held n' 2 (List.take (Tryz.prog.cellsOf 2) [v2, v3, v4]) = some y2 at f2; rw [c2] at f2; replace f2 : DataW.trod enc Tryz.prog w base spare held n' 2 [v2] = some y2 := f2
          have f3 := hf 3 _ rfl; change DataW.trod enc Tryz.prog w base spare held n' 9 (List.take (Tryz.prog.cellsOf 9) [v3, v4]) = some y3 at f3; rw [c9] at f3; replace f3 : DataW.trod enc Tryz.prog w base spare held n' 9 [v3] = some y3 := f3
          have f4 := hf 4 _ rfl; change DataW.trod enc Tryz.prog w base spare held n' 2 (List.take (Tryz.prog.cellsOf 2) [v4]) = some y4 at f4; rw [c2] at f4; replace f4 : DataW.trod enc Tryz.prog w base spare held n' 2 [v4] = some y4 := f4
          obtain ⟨s0, e0, _, b0⟩ := DataW.trod_string Tryz.underlying9 f0
          obtain ⟨i1, e1, _, b1⟩ := DataW.trod_int Tryz.underlying3 f1
          obtain ⟨i2, e2, _, b2⟩ := DataW.trod_int Tryz.underlying2 f2
          obtain ⟨s3, e3, _, b3⟩ := DataW.trod_string Tryz.underlying9 f3
          obtain ⟨i4, e4, _, b4⟩ := DataW.trod_int Tryz.underlying2 f4
          simp only [List.cons.injEq, and_true] at e0 e1 e2 e3 e4
          subst e0 e1 e2 e3 e4
          exact ⟨⟨s0, i1, i2, s3, i4⟩, ⟨b0, okI_of b1, okI_of b2, b3, okI_of b4⟩, fun j hj => by rw [← Go.Deep.add_add]; exact hat j hj⟩)
    refine ⟨some a, cap, l, by rw [hll], Reads.of_elems (f := Ref.cs) (k := 5) (fun _ => rfl) (by decide) rfl (fun i hi => (hP i hi).2), fun x hx => ?_, by omega⟩
    obtain ⟨i, hi, rfl⟩ := List.getElem_of_mem hx
    exact (hP i hi).1
end

end Go.Proofs.YtgelaffifjicoaaGreatDoor
