/-
  PolicyRow holds: of one snapshot a day, a policy of days alone keeps just the last ones; one of weeks alone the last one of each of the last weeks. Its conditions: the library's listed variables hold at the start what their initialisers lay (tied to the program's text).
-/
import Derived.Test.YtgelaffifjicoaaDoorCards
import Derived.Test.YtgelaffifjicoaaDoorTie
import Derived.SevenTiedAt
import Derived.Test.YtgelaffifjicoaaDoorLaidW
import Derived.Test.YtgelaffifjicoaaDoorShut
import Derived.Test.YtgelaffifjicoaaDoorOpenB
import Derived.Test.YtgelaffifjicoaaDoorOpenR
import Derived.Test.YtgelaffifjicoaaDoorRow49
namespace Go.Proofs.YtgelaffifjicoaaDoor
open Go.ChangeShapes Go.WideShapes Go.ChangeAt Go.RowKit Go.ChangeMaps
set_option linter.unusedSimpArgs false
set_option linter.unusedVariables false

abbrev rowArgs : Array Value := #[.int .i64 0, .int .u8 0, .int .u8 0]
set_option maxRecDepth 100000 in
theorem row_lifted (os : Os) (started : os.Started) (H : Type) (enc : TypeId × Value → H) (F : Stop.Interp) :
    ReturnsInHanded {} Tryd.checked os 8 .any ((OpenSpec.ofChange Rows.policyRowSpec).preRow enc Tryd.prog Tryd.f8 Rows.policyRowRow.domain false Rows.policyRowRow.laid) (((OpenSpec.ofChange Rows.policyRowSpec).at F).post enc Tryd.prog Tryd.f8 false true false false) := by
  obtain ⟨x0, hx0⟩ := Option.isSome_iff_exists.1 (show (DataW.whole enc Tryd.prog ((laidWorld os).forCall (fun _ _ => 0) ⟨#[], rowArgs, []⟩).memory Tryd.f8.params.toList Rows.policyRowSpec.vars false rowArgs.toList 8).isSome = true from by kernel_rfl)
  refine returnsInHanded_of_row (C := Tryd.checked) (s := OpenSpec.ofChange Rows.policyRowSpec) own49 started (by kernel_rfl) Tryd.func8
    (witness_row_at (enc := enc) (C := Tryd.checked) false (laidWorld os) rowArgs rfl (by kernel_rfl) (by kernel_rfl) (by kernel_rfl)
      (OpenSpec.preRow_of_cond 8 hx0 rfl (fun k hk => by cases hk) (by kernel_rfl) (laid_turned os _))) ?_
  intro W base args ds gs before hval0 hW _ _ _ hL hsh _
  obtain ⟨m, hm⟩ := maxLen_cell W hsh
  have hval : ∀ (j : Nat) t v, Tryd.f8.params[j]? = some t → args[j]? = some v → Value.okWide Tryd.prog W .any base t v := hval0
  have hW' := hW
  obtain ⟨p, q, hA0, hV, rfl, hfz, hnd⟩ := hW
  have hA : DataW.TrodAll enc Tryd.prog W 0 (fun _ => true) true Tryd.f8.params.toList args.toList ds p := hA0
  rw [Tryd.params8] at hA hval
  obtain ⟨v0, v1, v2, d0, d1, d2, p0, p1, p2, rfl, rfl, rfl, h0, h1, h2⟩ := trodAll_three hA
  obtain ⟨rfl, rfl⟩ := trodVars_none hV
  obtain ⟨k0, e0, _, _, b0⟩ := open_int Tryd.underlying2 (hval 0 2 v0 rfl rfl) h0
  subst e0
  obtain ⟨k1, e1, _, _, b1⟩ := open_int Tryd.underlying5 (hval 1 5 v1 rfl rfl) h1
  subst e1
  obtain ⟨k2, e2, _, _, b2⟩ := open_int Tryd.underlying5 (hval 2 5 v2 rfl rfl) h2
  subst e2
  clear hA0 hval0
  simp only [List.append_nil, List.append_assoc] at hW'
  refine (row_any k0 k1 k2 (okI_of b0) (u8_of b1) (u8_of b2) m W hm).mono fun e W' ⟨he, hb⟩ => ?_
  subst he
  have hlt : ∀ x ∈ p0 ++ (p1 ++ p2), x.block < W.heap.size := fun x hx => hW'.lt x hx
  exact ⟨_, rfl, post_of_below (pa := p0 ++ (p1 ++ p2)) (pv := []) hW' (fun _ _ _ => trodAll_mk1 (shut_bool Tryd.underlying4 true))
    (fun sp hsp => by
      have h := trodAll_mk3 (trod_kept Tryd.laidOut (by kernel_rfl) (of_decide_eq_true (by kernel_rfl)) h0 hb (fun x hx => hlt x (List.mem_append_left _ hx)) (fun x hx => hsp x (List.mem_append_left _ hx))) (trod_kept Tryd.laidOut (by kernel_rfl) (of_decide_eq_true (by kernel_rfl)) h1 hb (fun x hx => hlt x (List.mem_append_right _ (List.mem_append_left _ hx))) (fun x hx => hsp x (List.mem_append_right _ (List.mem_append_left _ hx)))) (trod_kept Tryd.laidOut (by kernel_rfl) (of_decide_eq_true (by kernel_rfl)) h2 hb (fun x hx => hlt x (List.mem_append_right _ (List.mem_append_right _ hx))) (fun x hx => hsp x (List.mem_append_right _ (List.mem_append_right _ hx))))
      exact h) (fun _ _ => rfl) (by simp) hb (ok_one (by kernel_rfl) rfl (okWide_bool_mk Tryd.underlying4 true))⟩

theorem row_said : Rows.PolicyRowSaid :=
  OpenClaim.holds_of_cond 8 Tryd.f8 rfl rfl rfl rfl rfl rfl rfl ⟨rfl, rfl, rfl, rfl, rfl⟩ rfl rfl rfl rfl rfl (by kernel_rfl) Tryd.func8 (by kernel_rfl)
    (of_decide_eq_true (by kernel_rfl)) (by unfold Func.isWrapper; first | (rw [if_pos (by decide +kernel)]; kernel_rfl) | (rw [if_neg (by decide +kernel)]; exact ⟨rfl, rfl⟩))
    (fun os started H enc _ F => by rw [OpenClaim.pre_eq_preRow]; exact row_lifted os started H enc F)

theorem row_plain (f : FuncId) (fn : Func) (hf : Tryd.pinned.checked.prog.funcNamed "hibernacle/hibernaclelaw49.PolicyRow" = some f) (hfn : Tryd.pinned.checked.prog.funcs[f]? = some fn) :
    true = Tryd.pinned.checked.prog.looks [] ∧ ∀ (j : Nat) t, fn.params[j]? = some t → Tryd.pinned.checked.prog.wantsStandIn t = false := by
  obtain rfl : f = 8 := Option.some.inj ((show Tryd.prog.funcNamed "hibernacle/hibernaclelaw49.PolicyRow" = some 8 by kernel_rfl).symm.trans hf) |>.symm
  obtain rfl : fn = Tryd.f8 := (Option.some.inj (Tryd.func8.symm.trans hfn)).symm
  refine ⟨by kernel_rfl, fun j t ht => ?_⟩
  rw [Tryd.params8] at ht
  rcases (show t = 2 ∨ t = 5 by simpa using Array.mem_of_getElem? ht) with rfl | rfl
  · exact (show Tryd.prog.wantsStandIn 2 = false by kernel_rfl)
  · exact (show Tryd.prog.wantsStandIn 5 = false by kernel_rfl)

theorem row_card : Rows.PolicyRowCardSaid :=
  Claim7.holds_tied_plain_at .later [] _ _ _ _ row_said (fun _ h => by cases h) (by kernel_rfl) (fun _ h => by cases h) policyRow_row_tie rfl ⟨rfl, rfl⟩ (by kernel_rfl) rfl row_plain (by kernel_rfl)

#print axioms row_card
end Go.Proofs.YtgelaffifjicoaaDoor
