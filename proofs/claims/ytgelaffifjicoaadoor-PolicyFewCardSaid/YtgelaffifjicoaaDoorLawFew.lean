/-
  PolicyFew holds: of unlike snapshots of one machine that are not held no more are kept than the four numbers are together. Its conditions: the library's listed variables hold at the start what their initialisers lay (tied to the program's text).
-/
import Derived.Test.YtgelaffifjicoaaDoorCards
import Derived.Test.YtgelaffifjicoaaDoorTie
import Derived.SevenTiedAt
import Derived.Test.YtgelaffifjicoaaDoorLaidW
import Derived.Test.YtgelaffifjicoaaDoorShut
import Derived.Test.YtgelaffifjicoaaDoorOpenB
import Derived.Test.YtgelaffifjicoaaDoorOpenR
import Derived.Test.YtgelaffifjicoaaDoorFew49
namespace Go.Proofs.YtgelaffifjicoaaDoor
open Go.ChangeShapes Go.WideShapes Go.ChangeAt Go.RowKit Go.ChangeMaps
set_option linter.unusedSimpArgs false
set_option linter.unusedVariables false

abbrev fewArgs : Array Value := #[.agg #[.int .i64 0, .int .i64 0, .int .i64 0, .int .i64 0], .slice none 0 0]
set_option maxRecDepth 100000 in
theorem few_lifted (os : Os) (started : os.Started) (H : Type) (enc : TypeId × Value → H) (F : Stop.Interp) :
    ReturnsInHanded {} Tryd.checked os 4 .any ((OpenSpec.ofChange Rows.policyFewSpec).preRow enc Tryd.prog Tryd.f4 Rows.policyFewRow.domain false Rows.policyFewRow.laid) (((OpenSpec.ofChange Rows.policyFewSpec).at F).post enc Tryd.prog Tryd.f4 false true false false) := by
  obtain ⟨x0, hx0⟩ := Option.isSome_iff_exists.1 (show (DataW.whole enc Tryd.prog ((laidWorld os).forCall (fun _ _ => 0) ⟨#[], fewArgs, []⟩).memory Tryd.f4.params.toList Rows.policyFewSpec.vars false fewArgs.toList 8).isSome = true from by kernel_rfl)
  refine returnsInHanded_of_row (C := Tryd.checked) (s := OpenSpec.ofChange Rows.policyFewSpec) own49 started (by kernel_rfl) Tryd.func4
    (witness_row_at (enc := enc) (C := Tryd.checked) false (laidWorld os) fewArgs rfl (by kernel_rfl) (by kernel_rfl) (by kernel_rfl)
      (OpenSpec.preRow_of_cond 8 hx0 rfl (fun k hk => by cases hk) (by kernel_rfl) (laid_turned os _))) ?_
  intro W base args ds gs before hval0 hW _ _ _ hL hsh _
  obtain ⟨m, hm⟩ := maxLen_cell W hsh
  have hval : ∀ (j : Nat) t v, Tryd.f4.params[j]? = some t → args[j]? = some v → Value.okWide Tryd.prog W .any base t v := hval0
  have hW' := hW
  obtain ⟨p, q, hA0, hV, rfl, hfz, hnd⟩ := hW
  have hA : DataW.TrodAll enc Tryd.prog W 0 (fun _ => true) true Tryd.f4.params.toList args.toList ds p := hA0
  rw [Tryd.params4] at hA hval
  obtain ⟨v0, v1, d0, d1, p0, p1, rfl, rfl, rfl, h0, h1⟩ := trodAll_two hA
  obtain ⟨rfl, rfl⟩ := trodVars_none hV
  obtain ⟨po, rfl, _, _, _, _⟩ := open_policy (hval 0 23 v0 rfl rfl) h0
  obtain ⟨A, cap, l, rfl, hr, hok, hlen⟩ := open_refs1 (hval 1 25 v1 rfl rfl) h1
  clear hA0 hval0
  simp only [List.append_nil, List.append_assoc] at hW'
  refine (few_any po l A cap m W hm hr hok hlen).mono fun e W' ⟨he, hb⟩ => ?_
  subst he
  have hlt : ∀ x ∈ p0 ++ p1, x.block < W.heap.size := fun x hx => hW'.lt x hx
  exact ⟨_, rfl, post_of_below (pa := p0 ++ p1) (pv := []) hW' (fun _ _ _ => trodAll_mk1 (shut_bool Tryd.underlying4 true))
    (fun sp hsp => by
      have h := trodAll_mk2 (trod_kept Tryd.laidOut (by kernel_rfl) (of_decide_eq_true (by kernel_rfl)) h0 hb (fun x hx => hlt x (List.mem_append_left _ hx)) (fun x hx => hsp x (List.mem_append_left _ hx))) (trod_kept Tryd.laidOut (by kernel_rfl) (of_decide_eq_true (by kernel_rfl)) h1 hb (fun x hx => hlt x (List.mem_append_right _ hx)) (fun x hx => hsp x (List.mem_append_right _ hx)))
      exact h) (fun _ _ => rfl) (by simp) hb (ok_one (by kernel_rfl) rfl (okWide_bool_mk Tryd.underlying4 true))⟩

theorem few_said : Rows.PolicyFewSaid :=
  OpenClaim.holds_of_cond 4 Tryd.f4 rfl rfl rfl rfl rfl rfl rfl ⟨rfl, rfl, rfl, rfl, rfl⟩ rfl rfl rfl rfl rfl (by kernel_rfl) Tryd.func4 (by kernel_rfl)
    (of_decide_eq_true (by kernel_rfl)) (by unfold Func.isWrapper; first | (rw [if_pos (by decide +kernel)]; kernel_rfl) | (rw [if_neg (by decide +kernel)]; exact ⟨rfl, rfl⟩))
    (fun os started H enc _ F => by rw [OpenClaim.pre_eq_preRow]; exact few_lifted os started H enc F)

theorem few_plain (f : FuncId) (fn : Func) (hf : Tryd.pinned.checked.prog.funcNamed "hibernacle/hibernaclelaw49.PolicyFew" = some f) (hfn : Tryd.pinned.checked.prog.funcs[f]? = some fn) :
    true = Tryd.pinned.checked.prog.looks [] ∧ ∀ (j : Nat) t, fn.params[j]? = some t → Tryd.pinned.checked.prog.wantsStandIn t = false := by
  obtain rfl : f = 4 := Option.some.inj ((show Tryd.prog.funcNamed "hibernacle/hibernaclelaw49.PolicyFew" = some 4 by kernel_rfl).symm.trans hf) |>.symm
  obtain rfl : fn = Tryd.f4 := (Option.some.inj (Tryd.func4.symm.trans hfn)).symm
  refine ⟨by kernel_rfl, fun j t ht => ?_⟩
  rw [Tryd.params4] at ht
  rcases (show t = 23 ∨ t = 25 by simpa using Array.mem_of_getElem? ht) with rfl | rfl
  · exact (show Tryd.prog.wantsStandIn 23 = false by kernel_rfl)
  · exact (show Tryd.prog.wantsStandIn 25 = false by kernel_rfl)

theorem few_card : Rows.PolicyFewCardSaid :=
  Claim7.holds_tied_plain_at .later [] _ _ _ _ few_said (fun _ h => by cases h) (by kernel_rfl) (fun _ h => by cases h) policyFew_row_tie rfl ⟨rfl, rfl⟩ (by kernel_rfl) rfl few_plain (by kernel_rfl)

#print axioms few_card
end Go.Proofs.YtgelaffifjicoaaDoor
