/-
  PolicyMore holds: a policy none of whose numbers is lower keeps all that the other one does; the latest one of each machine is kept, and what is held. Its conditions: the library's listed variables hold at the start what their initialisers lay (tied to the program's text).
-/
import Derived.Test.YtgelaffifjicoaaDoorCards
import Derived.Test.YtgelaffifjicoaaDoorTie
import Derived.SevenTiedAt
import Derived.Test.YtgelaffifjicoaaDoorLaidW
import Derived.Test.YtgelaffifjicoaaDoorShut
import Derived.Test.YtgelaffifjicoaaDoorOpenB
import Derived.Test.YtgelaffifjicoaaDoorMore
namespace Go.Proofs.YtgelaffifjicoaaDoor
open Go.ChangeShapes Go.WideShapes Go.ChangeAt Go.RowKit
set_option linter.unusedSimpArgs false
set_option linter.unusedVariables false

section
variable {H : Type} {enc : TypeId × Value → H} {w : World} {base : Nat} {spare : Nat → Bool} {held : Bool}
theorem u8_of {n : Int} (h : (Lit.int .u8 n).wf = true) : 0 ≤ n ∧ n < 256 := by
  have h1 : IntKind.u8.min = 0 := rfl
  have h2 : IntKind.u8.max = 255 := rfl
  simp [Lit.wf, h1, h2] at h
  omega
set_option maxRecDepth 100000 in
theorem open_four {r : Reach} {b0 : Nat} {v : Value} {d : DataW H} {p : List MemPlace} (hv : Value.okWide Tryd.prog w r b0 24 v) (h : DataW.Trod enc Tryd.prog w base spare held 24 v d p) :
    ∃ a0 a1 a2 a3 : Int, v = .agg #[.int .u8 a0, .int .u8 a1, .int .u8 a2, .int .u8 a3] ∧ (0 ≤ a0 ∧ a0 < 256) ∧ (0 ≤ a1 ∧ a1 < 256) ∧ (0 ≤ a2 ∧ a2 < 256) ∧ (0 ≤ a3 ∧ a3 < 256) := by
  simp only [Value.okWide, Tryd.underlying24] at hv
  obtain ⟨cs, rfl, hsz, _⟩ := hv
  obtain ⟨l⟩ := cs
  have k4 : Tryd.prog.cellsOf 24 = 4 := by kernel_rfl
  have k1 : Tryd.prog.cellsOf 5 = 1 := by kernel_rfl
  rw [k4] at hsz
  match l, hsz with
  | [v0, v1, v2, v3], _ =>
    obtain ⟨fuel, f4⟩ := h
    obtain ⟨zs, n', _, _, _, hzl, hp⟩ := DataW.trod_array Tryd.underlying24 f4
    match zs, hzl with
    | [z0, z1, z2, z3], _ =>
      have p0 := hp 0 (by omega); rw [k1] at p0; replace p0 : DataW.trod enc Tryd.prog w base spare held n' 5 [v0] = some z0 := p0
      have p1 := hp 1 (by omega); rw [k1] at p1; replace p1 : DataW.trod enc Tryd.prog w base spare held n' 5 [v1] = some z1 := p1
      have p2 := hp 2 (by omega); rw [k1] at p2; replace p2 : DataW.trod enc Tryd.prog w base spare held n' 5 [v2] = some z2 := p2
      have p3 := hp 3 (by omega); rw [k1] at p3; replace p3 : DataW.trod enc Tryd.prog w base spare held n' 5 [v3] = some z3 := p3
      obtain ⟨j0, q0, _, b0⟩ := DataW.trod_int Tryd.underlying5 p0
      obtain ⟨j1, q1, _, b1⟩ := DataW.trod_int Tryd.underlying5 p1
      obtain ⟨j2, q2, _, b2⟩ := DataW.trod_int Tryd.underlying5 p2
      obtain ⟨j3, q3, _, b3⟩ := DataW.trod_int Tryd.underlying5 p3
      simp only [List.cons.injEq, and_true] at q0 q1 q2 q3
      subst q0 q1 q2 q3
      exact ⟨j0, j1, j2, j3, rfl, u8_of b0, u8_of b1, u8_of b2, u8_of b3⟩
end

abbrev moreArgs : Array Value := #[.agg #[.int .i64 0, .int .i64 0, .int .i64 0, .int .i64 0], .agg #[.int .u8 0, .int .u8 0, .int .u8 0, .int .u8 0], .agg #[.slice none 0 0, .int .i64 0]]
set_option maxRecDepth 100000 in
theorem more_lifted (os : Os) (started : os.Started) (H : Type) (enc : TypeId × Value → H) (F : Stop.Interp) :
    ReturnsInHanded {} Tryd.checked os 3 .any ((OpenSpec.ofChange Rows.policyMoreSpec).preRow enc Tryd.prog Tryd.f3 Rows.policyMoreRow.domain false Rows.policyMoreRow.laid) (((OpenSpec.ofChange Rows.policyMoreSpec).at F).post enc Tryd.prog Tryd.f3 false true false false) := by
  obtain ⟨x, hx⟩ := Option.isSome_iff_exists.1 (show (DataW.whole enc Tryd.prog ((laidWorld os).forCall (fun _ _ => 0) ⟨#[], moreArgs, []⟩).memory Tryd.f3.params.toList Rows.policyMoreSpec.vars false moreArgs.toList 8).isSome = true from by kernel_rfl)
  refine returnsInHanded_of_row (C := Tryd.checked) (s := OpenSpec.ofChange Rows.policyMoreSpec) own49 started (by kernel_rfl) Tryd.func3
    (witness_row_at (enc := enc) (C := Tryd.checked) false (laidWorld os) moreArgs rfl (by kernel_rfl) (by kernel_rfl) (by kernel_rfl)
      (OpenSpec.preRow_of_cond 8 hx rfl (fun k hk => by cases hk) (by kernel_rfl) (laid_turned os _))) ?_
  intro W base args ds gs before hval0 hW _ _ _ hL hsh _
  obtain ⟨m, hm⟩ := maxLen_cell W hsh
  have hval : ∀ (j : Nat) t v, Tryd.f3.params[j]? = some t → args[j]? = some v → Value.okWide Tryd.prog W .any base t v := hval0
  have hW' := hW
  obtain ⟨p, q, hA0, hV, rfl, hfz, hnd⟩ := hW
  have hA : DataW.TrodAll enc Tryd.prog W 0 (fun _ => true) true Tryd.f3.params.toList args.toList ds p := hA0
  rw [Tryd.params3] at hA hval
  obtain ⟨v0, v1, v2, d0, d1, d2, p0, p1, p2, rfl, rfl, rfl, h0, h1, h2⟩ := trodAll_three hA
  obtain ⟨rfl, rfl⟩ := trodVars_none hV
  obtain ⟨po, rfl, _, _, _, _⟩ := open_policy (hval 0 23 v0 rfl rfl) h0
  obtain ⟨a0, a1, a2, a3, rfl, ha0, ha1, ha2, ha3⟩ := open_four (hval 1 24 v1 rfl rfl) h1
  obtain ⟨A, cap, l, now, rfl, hr, hok, hlen, hnow⟩ := open_by (hval 2 27 v2 rfl rfl) h2
  clear hA0 hval0
  simp only [List.append_nil, List.append_assoc] at hW'
  refine (more_any po a0 a1 a2 a3 ha0 ha1 ha2 ha3 now l A cap m W hm hr hok hlen).mono fun e W' ⟨he, hb⟩ => ?_
  subst he
  have hlt : ∀ x ∈ p0 ++ (p1 ++ p2), x.block < W.heap.size := fun x hx => hW'.lt x hx
  exact ⟨_, rfl, post_of_below (pa := p0 ++ (p1 ++ p2)) (pv := []) hW' (fun _ _ _ => trodAll_mk1 (shut_bool Tryd.underlying4 true))
    (fun sp hsp => by
      have h := trodAll_mk3 (trod_kept Tryd.laidOut (by kernel_rfl) (of_decide_eq_true (by kernel_rfl)) h0 hb (fun x hx => hlt x (List.mem_append_left _ hx)) (fun x hx => hsp x (List.mem_append_left _ hx))) (trod_kept Tryd.laidOut (by kernel_rfl) (of_decide_eq_true (by kernel_rfl)) h1 hb (fun x hx => hlt x (List.mem_append_right _ (List.mem_append_left _ hx))) (fun x hx => hsp x (List.mem_append_right _ (List.mem_append_left _ hx)))) (trod_kept Tryd.laidOut (by kernel_rfl) (of_decide_eq_true (by kernel_rfl)) h2 hb (fun x hx => hlt x (List.mem_append_right _ (List.mem_append_right _ hx))) (fun x hx => hsp x (List.mem_append_right _ (List.mem_append_right _ hx))))
      exact h) (fun _ _ => rfl) (by simp) hb (ok_one (by kernel_rfl) rfl (okWide_bool_mk Tryd.underlying4 true))⟩

theorem more_said : Rows.PolicyMoreSaid :=
  OpenClaim.holds_of_cond 3 Tryd.f3 rfl rfl rfl rfl rfl rfl rfl ⟨rfl, rfl, rfl, rfl, rfl⟩ rfl rfl rfl rfl rfl (by kernel_rfl) Tryd.func3 (by kernel_rfl)
    (of_decide_eq_true (by kernel_rfl)) (by unfold Func.isWrapper; first | (rw [if_pos (by decide +kernel)]; kernel_rfl) | (rw [if_neg (by decide +kernel)]; exact ⟨rfl, rfl⟩))
    (fun os started H enc _ F => by rw [OpenClaim.pre_eq_preRow]; exact more_lifted os started H enc F)

theorem more_plain (f : FuncId) (fn : Func) (hf : Tryd.pinned.checked.prog.funcNamed "hibernacle/hibernaclelaw49.PolicyMore" = some f) (hfn : Tryd.pinned.checked.prog.funcs[f]? = some fn) :
    true = Tryd.pinned.checked.prog.looks [] ∧ ∀ (j : Nat) t, fn.params[j]? = some t → Tryd.pinned.checked.prog.wantsStandIn t = false := by
  obtain rfl : f = 3 := Option.some.inj ((show Tryd.prog.funcNamed "hibernacle/hibernaclelaw49.PolicyMore" = some 3 by kernel_rfl).symm.trans hf) |>.symm
  obtain rfl : fn = Tryd.f3 := (Option.some.inj (Tryd.func3.symm.trans hfn)).symm
  refine ⟨by kernel_rfl, fun j t ht => ?_⟩
  rw [Tryd.params3] at ht
  rcases (show t = 23 ∨ t = 24 ∨ t = 27 by simpa using Array.mem_of_getElem? ht) with rfl | rfl | rfl
  · exact (show Tryd.prog.wantsStandIn 23 = false by kernel_rfl)
  · exact (show Tryd.prog.wantsStandIn 24 = false by kernel_rfl)
  · exact (show Tryd.prog.wantsStandIn 27 = false by kernel_rfl)

theorem more_card : Rows.PolicyMoreCardSaid :=
  Claim7.holds_tied_plain_at .later [] _ _ _ _ more_said (fun _ h => by cases h) (by kernel_rfl) (fun _ h => by cases h) policyMore_row_tie rfl ⟨rfl, rfl⟩ (by kernel_rfl) rfl more_plain (by kernel_rfl)

#print axioms more_card
end Go.Proofs.YtgelaffifjicoaaDoor
