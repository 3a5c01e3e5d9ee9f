/-
  THE LIBRARY's SORT AND COMPARE AT THIS PROGRAM: the table of numbers by which the kit's contracts apply, laid out in plain words; what the sort makes of snapshots.
-/
import Derived.Shelf.SlSortCmp.NoneTotal
import Derived.Shelf.Small.Strs
import Derived.Test.YtgelaffifjicoaaDoorSorted
namespace Go.Proofs.YtgelaffifjicoaaDoor
open Go.Shelf Go.RowKit
set_option linter.unusedSimpArgs false
set_option linter.unusedVariables false

def sortL_ren : Go.Shelf.Ren := ⟨fun | 6 => 26 | 15 => 39 | 14 => 38 | 28 => 60 | 29 => 61 | 20 => 52 | 21 => 53 | 22 => 54 | 23 => 55 | 24 => 56 | 25 => 57 | 26 => 58 | 27 => 59 | 46 => 73 | 47 => 74 | 48 => 75 | 49 => 76 | 50 => 77 | 57 => 92 | n => n, fun | 22 => 52 | 24 => 58 | 25 => 71 | 3 => 3 | 39 => 85 | 0 => 0 | 53 => 102 | 55 => 104 | 4 => 4 | 46 => 95 | 45 => 94 | 50 => 99 | 5 => 5 | 9 => 9 | 66 => 116 | 70 => 120 | 76 => 135 | 77 => 136 | n => n, fun | n => n⟩
theorem sortL : Go.Proofs.SlLaysF0.n6 Tryd.prog sortL_ren := {
  mixed := by kernel_rfl,
  f6 := ⟨Tryd.f26.name, by decide, Tryd.func26.trans (congrArg some (by kernel_rfl))⟩,
  f14 := ⟨Tryd.f38.name, by decide, Tryd.func38.trans (congrArg some (by kernel_rfl))⟩,
  f15 := Tryd.func39.trans (congrArg some (by kernel_rfl)),
  f20 := ⟨Tryd.f52.name, by decide, Tryd.func52.trans (congrArg some (by kernel_rfl))⟩,
  f21 := ⟨Tryd.f53.name, by decide, Tryd.func53.trans (congrArg some (by kernel_rfl))⟩,
  f22 := ⟨Tryd.f54.name, by decide, Tryd.func54.trans (congrArg some (by kernel_rfl))⟩,
  f23 := ⟨Tryd.f55.name, by decide, Tryd.func55.trans (congrArg some (by kernel_rfl))⟩,
  f24 := ⟨Tryd.f56.name, by decide, Tryd.func56.trans (congrArg some (by kernel_rfl))⟩,
  f25 := ⟨Tryd.f57.name, by decide, Tryd.func57.trans (congrArg some (by kernel_rfl))⟩,
  f26 := ⟨Tryd.f58.name, by decide, Tryd.func58.trans (congrArg some (by kernel_rfl))⟩,
  f27 := ⟨Tryd.f59.name, by decide, Tryd.func59.trans (congrArg some (by kernel_rfl))⟩,
  f28 := Tryd.func60.trans (congrArg some (by kernel_rfl)),
  f29 := Tryd.func61.trans (congrArg some (by kernel_rfl)),
  f46 := ⟨Tryd.f73.name, by decide, Tryd.func73.trans (congrArg some (by kernel_rfl))⟩,
  f47 := Tryd.func74.trans (congrArg some (by kernel_rfl)),
  f48 := Tryd.func75.trans (congrArg some (by kernel_rfl)),
  f49 := ⟨Tryd.f76.name, by decide, Tryd.func76.trans (congrArg some (by kernel_rfl))⟩,
  f50 := ⟨Tryd.f77.name, by decide, Tryd.func77.trans (congrArg some (by kernel_rfl))⟩,
  f57 := ⟨Tryd.f92.name, by decide, Tryd.func92.trans (congrArg some (by kernel_rfl))⟩,
  t0 := Tryd.underlying0,
  a0 := Tryd.isAgg0,
  z0 := Tryd.sizeOf0,
  v0 := Tryd.zeroValue0,
  t3 := Tryd.underlying3,
  a3 := Tryd.isAgg3,
  z3 := Tryd.sizeOf3,
  v3 := Tryd.zeroValue3,
  t4 := Tryd.underlying4,
  a4 := Tryd.isAgg4,
  z4 := Tryd.sizeOf4,
  v4 := Tryd.zeroValue4,
  t5 := Tryd.underlying5,
  a5 := Tryd.isAgg5,
  z5 := Tryd.sizeOf5,
  v5 := Tryd.zeroValue5,
  t9 := Tryd.underlying9,
  a9 := Tryd.isAgg9,
  z9 := Tryd.sizeOf9,
  v9 := Tryd.zeroValue9,
  t22 := Tryd.underlying52,
  a22 := Tryd.isAgg52,
  z22 := Tryd.sizeOf52,
  v22 := Tryd.zeroValue52,
  t25 := Tryd.underlying71,
  a25 := Tryd.isAgg71,
  z25 := Tryd.sizeOf71,
  v25 := Tryd.zeroValue71,
  t39 := Tryd.underlying85,
  a39 := Tryd.isAgg85,
  z39 := Tryd.sizeOf85,
  v39 := Tryd.zeroValue85,
  t45 := Tryd.underlying94,
  a45 := Tryd.isAgg94,
  z45 := Tryd.sizeOf94,
  v45 := Tryd.zeroValue94,
  t46 := Tryd.underlying95,
  a46 := Tryd.isAgg95,
  z46 := Tryd.sizeOf95,
  v46 := Tryd.zeroValue95,
  t50 := Tryd.underlying99,
  a50 := Tryd.isAgg99,
  z50 := Tryd.sizeOf99,
  v50 := Tryd.zeroValue99,
  t53 := Tryd.underlying102,
  a53 := Tryd.isAgg102,
  z53 := Tryd.sizeOf102,
  v53 := Tryd.zeroValue102,
  t55 := Tryd.underlying104,
  a55 := Tryd.isAgg104,
  z55 := Tryd.sizeOf104,
  v55 := Tryd.zeroValue104,
  t66 := Tryd.underlying116,
  a66 := Tryd.isAgg116,
  z66 := Tryd.sizeOf116,
  v66 := Tryd.zeroValue116,
  t70 := Tryd.underlying120,
  a70 := Tryd.isAgg120,
  z70 := Tryd.sizeOf120,
  v70 := Tryd.zeroValue120,
  t76 := Tryd.underlying135,
  a76 := Tryd.isAgg135,
  z76 := Tryd.sizeOf135,
  v76 := Tryd.zeroValue135,
  t77 := Tryd.underlying136,
  a77 := Tryd.isAgg136,
  z77 := Tryd.sizeOf136,
  v77 := Tryd.zeroValue136 }


def cmpL_ren : Go.Shelf.Ren := ⟨fun | 106 => 29 | 213 => 40 | 265 => 62 | n => n, fun | 9 => 9 | 3 => 3 | n => n, fun | n => n⟩
theorem cmpL : Go.Proofs.Lays.n106 Tryd.prog cmpL_ren := {
  mixed := by kernel_rfl,
  f106 := Tryd.func29.trans (congrArg some (by kernel_rfl)),
  f213 := Tryd.func40.trans (congrArg some (by kernel_rfl)),
  f265 := Tryd.func62.trans (congrArg some (by kernel_rfl)),
  t3 := Tryd.underlying3,
  a3 := Tryd.isAgg3,
  z3 := Tryd.sizeOf3,
  v3 := Tryd.zeroValue3,
  t9 := Tryd.underlying9,
  a9 := Tryd.isAgg9,
  z9 := Tryd.sizeOf9,
  v9 := Tryd.zeroValue9 }


theorem compare_any (a b : ByteArray) (w : World) : Calls Tryd.prog 29 #[.string a, .string b] w fun e w' => e = .returned (.int .i64 (Lib.compareBytes a.data.toList b.data.toList)) ∧ w' = w := Any.strings_Compare cmpL a b w

theorem lt_ahead (x y : One) : ltOf cf x y = true ↔ ahead x y := by unfold ltOf; rw [decide_eq_true_iff]; exact cf_ahead x y
theorem cf_swo : Go.Sort.SWO (ltOf cf) where
  irrefl x := by
    rw [Bool.eq_false_iff]
    intro h; exact ahead_irrefl x ((lt_ahead x x).1 h)
  trans x y z h k := (lt_ahead x z).2 (ahead_trans ((lt_ahead x y).1 h) ((lt_ahead y z).1 k))
  ntrans x y z h k := by
    rw [Bool.eq_false_iff] at *
    intro c
    have c' := (lt_ahead x z).1 c
    have h' : ¬ ahead x y := fun e => h ((lt_ahead x y).2 e)
    have k' : ¬ ahead y z := fun e => k ((lt_ahead y z).2 e)
    rcases ahead_total x y with e | e | e
    · subst e; exact k' c'
    · exact h' e
    · exact k' (ahead_trans e c')

theorem sort_says : SortSays := by
  intro d g cap w hH hg hlen
  have eg : ∀ args w, (callFunc 27 args).run Tryd.prog w = .ok (.enter 27 args) w := enters_of Tryd.func27 (by kernel_rfl) rfl
  have h := AnyQ.slices_SortFunc_total sortL 3 Tryd.isAgg58 Tryd.sizeOf58 One.cs (fun _ => rfl) (fun x v hv => by simp [One.cs] at hv; rcases hv with rfl | rfl | rfl <;> rfl) cf cf_swo 27 #[] g 0 cap d.toArray w eg
    (fun _ _ _ _ x y => less_any compare_any x y _) hH hg (by simpa using hlen) (fun x y h1 h2 => by
      rw [Bool.eq_false_iff] at h1 h2
      rcases ahead_total x y with e | e | e
      · exact e
      · exact absurd ((lt_ahead x y).2 e) h1
      · exact absurd ((lt_ahead y x).2 e) h2)
  exact h
theorem sort_none : SortNone := fun p cap fv w => AnyF.slices_SortFunc_none sortL p cap fv w

end Go.Proofs.YtgelaffifjicoaaDoor
