/-
  HoldGrows holds: no snapshot's Until is ever less than it was; what was held for so long is there, though the root is trimmed then. Under no condition.
-/
import Derived.ProofKit
import Derived.OpenShut
import Derived.Test.YtfjlhcapkfcpkaaRows
import Derived.Test.YtfjlhcapkfcpkaaShut
import Derived.Test.YtfjlhcapkfcpkaaOpen
import Derived.Test.YtfjlhcapkfcpkaaGrows
namespace Go.Proofs.Ytfjlhcapkfcpkaa
open Go.ChangeShapes Go.WideShapes Go.ChangeAt Go.RowKit Go.Deep

section
variable {H : Type} {enc : TypeId × Value → H} {w : World} {base : Nat} {spare : Nat → Bool} {held : Bool}
set_option maxRecDepth 100000 in
theorem open_pairs {fuel : Nat} {c : Value} {x : DataW H × List MemPlace} (h : DataW.trod enc Try.prog w base spare held fuel 45 [c] = some x) :
    ∃ (A : Option Addr) (cap : Nat) (l : List (Int × Int)), c = .slice A l.length cap ∧ Reads w w.heap.size 2 A l.length (l.flatMap pairCs) ∧ (∀ p ∈ l, okI p.1 ∧ okI p.2) ∧ l.length ≤ maxLen := by
  rcases open_slice Try.underlying45 h with ⟨h0, _⟩ | ⟨a, len, cap, m, n, D, Pl, hcs, hb, hl, hm, hmm, hx, hi⟩
  · obtain rfl : c = .slice none 0 0 := by simpa using h0
    exact ⟨none, 0, [], rfl, Reads.none_, fun x hx => absurd hx (by simp), by simp⟩
  · obtain rfl : c = .slice (some a) len cap := by simpa using hcs
    have hlm : len ≤ m := by rw [hmm]; split <;> omega
    have hcell : Try.prog.cellsOf 48 = 2 := by kernel_rfl
    have c2 : Try.prog.cellsOf 2 = 1 := by kernel_rfl
    obtain ⟨l, hll, hP⟩ := list_of len (fun i (p : Int × Int) => (okI p.1 ∧ okI p.2) ∧ ∀ j, j < 2 → w.cell? (a.add (i * 2 + j)) = (pairCs p)[j]?) (fun i him => by
      obtain ⟨cs', hc, ht⟩ := hi i (by omega)
      rw [hcell] at hc
      obtain ⟨_, hcl, hat⟩ := World.cells?_some hc
      obtain ⟨ys, n', _, _, _, hyl, hf⟩ := DataW.trod_array Try.underlying48 ht
      match cs', hcl with
      | [v0, v1], _ =>
        match ys, hyl with
        | [y0, y1], _ =>
          have f0 := hf 0 (by omega); rw [c2] at f0; replace f0 : DataW.trod enc Try.prog w base spare held n' 2 [v0] = some y0 := f0
          have f1 := hf 1 (by omega); rw [c2] at f1; replace f1 : DataW.trod enc Try.prog w base spare held n' 2 [v1] = some y1 := f1
          obtain ⟨i0, e0, _, b0⟩ := DataW.trod_int Try.underlying2 f0
          obtain ⟨i1, e1, _, b1⟩ := DataW.trod_int Try.underlying2 f1
          simp only [List.cons.injEq, and_true] at e0 e1
          subst e0 e1
          exact ⟨(i0, i1), ⟨okI_of b0, okI_of b1⟩, fun j hj => by rw [← Go.Deep.add_add]; exact hat j hj⟩)
    refine ⟨some a, cap, l, by rw [hll], Reads.of_elems (f := pairCs) (k := 2) (fun _ => rfl) (by decide) rfl (fun i hi => (hP i hi).2), fun x hx => ?_, by omega⟩
    obtain ⟨i, hi, rfl⟩ := List.getElem_of_mem hx
    exact (hP i hi).1
end

set_option maxRecDepth 100000 in
theorem holdGrows_lifted (os : Os) (started : os.Started) (H : Type) (enc : TypeId × Value → H) :
    ReturnsInHanded {} Try.checked os 8 .any (Rows.holdGrowsSpec.pre6 enc Try.prog Try.f8 Rows.holdGrowsRow.domain false) (Rows.holdGrowsSpec.post enc Try.prog Try.f8 false true false false) := by
  refine returnsInHanded_of_change (C := Try.checked) Try.own started (by kernel_rfl) Try.func8
    (ChangeSpec.witness6 (enc := enc) (C := Try.checked) false ⟨#[], #[.agg #[.int .i64 0, .int .i64 0, .slice none 0 0, .slice none 0 0, .int .i64 0, .int .i64 0, .int .i64 0, .int .i64 0, .slice none 0 0], .slice none 0 0, .int .u16 0], []⟩ 8 (by kernel_rfl) (by kernel_rfl) (by kernel_rfl) (by kernel_rfl)) ?_
  intro W base args ds gs before hval0 hW hcnd _
  have hval : ∀ (j : Nat) t v, Try.f8.params[j]? = some t → args[j]? = some v → Value.okWide Try.prog W .any base t v := hval0
  have hW' := hW
  obtain ⟨p, q, hA0, hV, rfl, hfz, hnd⟩ := hW
  have hA : DataW.TrodAll enc Try.prog W 0 (fun _ => true) true Try.f8.params.toList args.toList ds p := hA0
  rw [Try.params8] at hA hval
  obtain ⟨v0, v1, v2, d0, d1, d2, p0, p1, p2, rfl, rfl, rfl, h0, h1, h2⟩ := trodAll_three hA
  obtain ⟨rfl, rfl⟩ := trodVars_none hV
  have h0k := h0
  obtain ⟨r, n, y3, y8, rfl, hr, hok, hlen, hnow, hp, hc⟩ := open_root (hval 0 28 v0 rfl rfl) h0
  obtain ⟨As0, len0, cs0, rfl⟩ := okWide_slice Try.underlying45 (hval 1 45 v1 rfl rfl)
  have h1k := h1
  obtain ⟨fuel1, hf1⟩ := h1
  obtain ⟨As, cs, ps, hps, hrs, hpok, hpl⟩ := open_pairs (c := .slice As0 len0 cs0) hf1
  rw [hps] at h1k hW' ⊢
  clear hf1
  obtain ⟨lt, rfl, rfl, rfl, wl⟩ := open_int Try.underlying46 (hval 2 46 v2 rfl rfl) h2
  clear hA0 hval0
  simp only [List.append_nil] at hW'
  refine (grows_any r As cs ps lt (by have h1 : IntKind.u16.min = 0 := rfl; have h2 : IntKind.u16.max = 65535 := rfl; simp [Lit.wf, h1, h2] at wl; omega) hpok hpl W hrs hr hok hlen).mono fun e W' ⟨he, hb⟩ => ?_
  subst he
  have hlt : ∀ x ∈ p0 ++ p1, x.block < W.heap.size := fun x hx => hW'.lt x hx
  exact ⟨_, rfl, post_of_below (pa := p0 ++ p1) (pv := []) hW' (fun _ _ _ => trodAll_mk1 (shut_bool Try.underlying4 true))
    (fun sp hsp => by
      have h := trodAll_mk3 (trod_kept Try.laidOut (by kernel_rfl) (of_decide_eq_true (by kernel_rfl)) h0k hb (fun x hx => hlt x (List.mem_append_left _ hx)) (fun x hx => hsp x (List.mem_append_left _ hx))) (trod_kept Try.laidOut (by kernel_rfl) (of_decide_eq_true (by kernel_rfl)) h1k hb (fun x hx => hlt x (List.mem_append_right _ hx)) (fun x hx => hsp x (List.mem_append_right _ hx))) (shut_int (P := Try.prog) (w := W') (base := 0) (spare := sp) (held := true) (enc := enc) Try.underlying46 wl)
      simp only [List.append_nil] at h
      exact h) (fun _ _ => rfl) (by simp) hb (ok_one (by kernel_rfl) rfl (okWide_bool_mk Try.underlying4 true))⟩

theorem holdGrows_holds : Rows.HoldGrowsSaid :=
  OpenClaim.holds_of_wide 8 Try.f8 rfl rfl rfl rfl rfl rfl rfl ⟨rfl, rfl, rfl, rfl, rfl⟩ rfl rfl rfl rfl rfl (by kernel_rfl) Try.func8 (by kernel_rfl)
    (of_decide_eq_true (by kernel_rfl)) (by unfold Func.isWrapper; first | (rw [if_pos (by decide +kernel)]; kernel_rfl) | (rw [if_neg (by decide +kernel)]; exact ⟨rfl, rfl⟩))
    (fun os started H enc _ => holdGrows_lifted os started H enc)

#print axioms holdGrows_holds
end Go.Proofs.Ytfjlhcapkfcpkaa
