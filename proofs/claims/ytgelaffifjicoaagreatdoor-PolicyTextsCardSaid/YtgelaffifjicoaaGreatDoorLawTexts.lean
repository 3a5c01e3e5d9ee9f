/-
  PolicyTexts holds: of any policy the text, and of any text the policy; there and back. Its conditions: the library's listed variables hold at the start what their initialisers lay (tied to the program's text).
-/
import Derived.Test.YtgelaffifjicoaaGreatDoorCards
import Derived.Test.YtgelaffifjicoaaGreatDoorTie
import Derived.SevenTiedAt
import Derived.Test.YtgelaffifjicoaaGreatDoorLaidZ
import Derived.Test.YtgelaffifjicoaaGreatDoorShut
import Derived.Test.YtgelaffifjicoaaGreatDoorOpenQ
import Derived.Test.YtgelaffifjicoaaGreatDoorTexts
namespace Go.Proofs.YtgelaffifjicoaaGreatDoor
open Go.ChangeShapes Go.WideShapes Go.ChangeAt Go.RowKit Go.ChangeMaps
set_option linter.unusedSimpArgs false
set_option linter.unusedVariables false

abbrev textsArgs : Array Value := #[.agg #[.int .i64 0, .int .i64 0, .int .i64 0, .int .i64 0], .string ⟨#[]⟩]
set_option maxRecDepth 100000 in
theorem texts_lifted (os : Os) (started : os.Started) (H : Type) (enc : TypeId × Value → H) (F : Stop.Interp) :
    ReturnsInHanded {} Tryz.checked os 3 .any ((OpenSpec.ofChange Rows.policyTextsSpec).preRow enc Tryz.prog Tryz.f3 Rows.policyTextsRow.domain false Rows.policyTextsRow.laid) (((OpenSpec.ofChange Rows.policyTextsSpec).at F).post enc Tryz.prog Tryz.f3 false true false false) := by
  obtain ⟨x0, hx0⟩ := Option.isSome_iff_exists.1 (show (DataW.whole enc Tryz.prog ((laidWorld os).forCall (fun _ _ => 0) ⟨#[], textsArgs, []⟩).memory Tryz.f3.params.toList Rows.policyTextsSpec.vars false textsArgs.toList 8).isSome = true from by kernel_rfl)
  refine returnsInHanded_of_row (C := Tryz.checked) (s := OpenSpec.ofChange Rows.policyTextsSpec) own49 started (by kernel_rfl) Tryz.func3
    (witness_row_at (enc := enc) (C := Tryz.checked) false (laidWorld os) textsArgs rfl (by kernel_rfl) (by kernel_rfl) (by kernel_rfl)
      (OpenSpec.preRow_of_cond 8 hx0 rfl (fun k hk => by cases hk) (by kernel_rfl) (laid_turned os _))) ?_
  intro W base args ds gs before hval0 hW _ _ _ hL hsh _
  obtain ⟨m, hm⟩ := maxLen_cell W hsh
  have hval : ∀ (j : Nat) t v, Tryz.f3.params[j]? = some t → args[j]? = some v → Value.okWide Tryz.prog W .any base t v := hval0
  have hW' := hW
  obtain ⟨p, q, hA0, hV, rfl, hfz, hnd⟩ := hW
  have hA : DataW.TrodAll enc Tryz.prog W 0 (fun _ => true) true Tryz.f3.params.toList args.toList ds p := hA0
  rw [Tryz.params3] at hA hval
  obtain ⟨v0, v1, d0, d1, p0, p1, rfl, rfl, rfl, h0, h1⟩ := trodAll_two hA
  obtain ⟨rfl, rfl⟩ := trodVars_none hV
  obtain ⟨po, rfl, _, _, _, _⟩ := open_policy (hval 0 23 v0 rfl rfl) h0
  obtain ⟨s1, e1, _, _, b1⟩ := open_string Tryz.underlying9 (hval 1 9 v1 rfl rfl) h1
  subst e1
  clear hA0 hval0
  simp only [List.append_nil, List.append_assoc] at hW'
  refine (texts_any po s1 b1 W (libZ_of hsh hL)).mono fun e W' ⟨he, hb⟩ => ?_
  subst he
  have hlt : ∀ x ∈ p0 ++ p1, x.block < W.heap.size := fun x hx => hW'.lt x hx
  exact ⟨_, rfl, post_of_below (pa := p0 ++ p1) (pv := []) hW' (fun _ _ _ => trodAll_mk1 (shut_bool Tryz.underlying4 true))
    (fun sp hsp => by
      have h := trodAll_mk2 (trod_kept Tryz.laidOut (by kernel_rfl) (of_decide_eq_true (by kernel_rfl)) h0 hb (fun x hx => hlt x (List.mem_append_left _ hx)) (fun x hx => hsp x (List.mem_append_left _ hx))) (trod_kept Tryz.laidOut (by kernel_rfl) (of_decide_eq_true (by kernel_rfl)) h1 hb (fun x hx => hlt x (List.mem_append_right _ hx)) (fun x hx => hsp x (List.mem_append_right _ hx)))
      exact h) (fun _ _ => rfl) (by simp) hb (ok_one (by kernel_rfl) rfl (okWide_bool_mk Tryz.underlying4 true))⟩

theorem texts_said : Rows.PolicyTextsSaid :=
  OpenClaim.holds_of_cond 3 Tryz.f3 rfl rfl rfl rfl rfl rfl rfl ⟨rfl, rfl, rfl, rfl, rfl⟩ rfl rfl rfl rfl rfl (by kernel_rfl) Tryz.func3 (by kernel_rfl)
    (of_decide_eq_true (by kernel_rfl)) (by unfold Func.isWrapper; first | (rw [if_pos (by decide +kernel)]; kernel_rfl) | (rw [if_neg (by decide +kernel)]; exact ⟨rfl, rfl⟩))
    (fun os started H enc _ F => by rw [OpenClaim.pre_eq_preRow]; exact texts_lifted os started H enc F)

theorem texts_plain (f : FuncId) (fn : Func) (hf : Tryz.pinned.checked.prog.funcNamed "hibernacle/hibernaclelaw49.PolicyTexts" = some f) (hfn : Tryz.pinned.checked.prog.funcs[f]? = some fn) :
    true = Tryz.pinned.checked.prog.looks [] ∧ ∀ (j : Nat) t, fn.params[j]? = some t → Tryz.pinned.checked.prog.wantsStandIn t = false := by
  obtain rfl : f = 3 := Option.some.inj ((show Tryz.prog.funcNamed "hibernacle/hibernaclelaw49.PolicyTexts" = some 3 by kernel_rfl).symm.trans hf) |>.symm
  obtain rfl : fn = Tryz.f3 := (Option.some.inj (Tryz.func3.symm.trans hfn)).symm
  refine ⟨by kernel_rfl, fun j t ht => ?_⟩
  rw [Tryz.params3] at ht
  rcases (show t = 23 ∨ t = 9 by simpa using Array.mem_of_getElem? ht) with rfl | rfl
  · exact (show Tryz.prog.wantsStandIn 23 = false by kernel_rfl)
  · exact (show Tryz.prog.wantsStandIn 9 = false by kernel_rfl)

theorem texts_card : Rows.PolicyTextsCardSaid :=
  Claim7.holds_tied_plain_at .later [] _ _ _ _ texts_said (fun _ h => by cases h) (by kernel_rfl) (fun _ h => by cases h) policyTexts_row_tie rfl ⟨rfl, rfl⟩ (by kernel_rfl) rfl texts_plain (by kernel_rfl)

#print axioms texts_card
end Go.Proofs.YtgelaffifjicoaaGreatDoor
