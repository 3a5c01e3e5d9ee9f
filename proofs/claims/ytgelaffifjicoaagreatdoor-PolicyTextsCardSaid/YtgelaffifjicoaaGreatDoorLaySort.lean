/-
  THE LIBRARY's SORT AND COMPARE AT THIS PROGRAM: the table of numbers by which the kit's contracts apply, laid out in plain words; what the sort makes of snapshots.
-/
import Derived.Shelf.SlSortCmp.NoneTotal
import Derived.Shelf.Small.Strs
import Derived.Test.YtgelaffifjicoaaGreatDoorSorted
namespace Go.Proofs.YtgelaffifjicoaaGreatDoor
open Go.Shelf Go.RowKit
set_option linter.unusedSimpArgs false
set_option linter.unusedVariables false

def sortL_ren : Go.Shelf.Ren := ⟨fun | 6 => 35 | 15 => 53 | 14 => 52 | 28 => 82 | 29 => 83 | 20 => 74 | 21 => 75 | 22 => 76 | 23 => 77 | 24 => 78 | 25 => 79 | 26 => 80 | 27 => 81 | 46 => 99 | 47 => 100 | 48 => 101 | 49 => 102 | 50 => 103 | 57 => 109 | n => n, fun | 22 => 49 | 24 => 55 | 25 => 77 | 3 => 3 | 39 => 89 | 0 => 0 | 53 => 122 | 55 => 98 | 4 => 4 | 46 => 115 | 45 => 114 | 50 => 119 | 5 => 5 | 9 => 9 | 66 => 134 | 70 => 138 | 76 => 149 | 77 => 150 | n => n, fun | n => n⟩
theorem sortL : Go.Proofs.SlLaysF0.n6 Tryz.prog sortL_ren := {
  mixed := by kernel_rfl,
  f6 := ⟨Tryz.f35.name, by decide, Tryz.func35.trans (congrArg some (by kernel_rfl))⟩,
  f14 := ⟨Tryz.f52.name, by decide, Tryz.func52.trans (congrArg some (by kernel_rfl))⟩,
  f15 := Tryz.func53.trans (congrArg some (by kernel_rfl)),
  f20 := ⟨Tryz.f74.name, by decide, Tryz.func74.trans (congrArg some (by kernel_rfl))⟩,
  f21 := ⟨Tryz.f75.name, by decide, Tryz.func75.trans (congrArg some (by kernel_rfl))⟩,
  f22 := ⟨Tryz.f76.name, by decide, Tryz.func76.trans (congrArg some (by kernel_rfl))⟩,
  f23 := ⟨Tryz.f77.name, by decide, Tryz.func77.trans (congrArg some (by kernel_rfl))⟩,
  f24 := ⟨Tryz.f78.name, by decide, Tryz.func78.trans (congrArg some (by kernel_rfl))⟩,
  f25 := ⟨Tryz.f79.name, by decide, Tryz.func79.trans (congrArg some (by kernel_rfl))⟩,
  f26 := ⟨Tryz.f80.name, by decide, Tryz.func80.trans (congrArg some (by kernel_rfl))⟩,
  f27 := ⟨Tryz.f81.name, by decide, Tryz.func81.trans (congrArg some (by kernel_rfl))⟩,
  f28 := Tryz.func82.trans (congrArg some (by kernel_rfl)),
  f29 := Tryz.func83.trans (congrArg some (by kernel_rfl)),
  f46 := ⟨Tryz.f99.name, by decide, Tryz.func99.trans (congrArg some (by kernel_rfl))⟩,
  f47 := Tryz.func100.trans (congrArg some (by kernel_rfl)),
  f48 := Tryz.func101.trans (congrArg some (by kernel_rfl)),
  f49 := ⟨Tryz.f102.name, by decide, Tryz.func102.trans (congrArg some (by kernel_rfl))⟩,
  f50 := ⟨Tryz.f103.name, by decide, Tryz.func103.trans (congrArg some (by kernel_rfl))⟩,
  f57 := ⟨Tryz.f109.name, by decide, Tryz.func109.trans (congrArg some (by kernel_rfl))⟩,
  t0 := Tryz.underlying0,
  a0 := Tryz.isAgg0,
  z0 := Tryz.sizeOf0,
  v0 := Tryz.zeroValue0,
  t3 := Tryz.underlying3,
  a3 := Tryz.isAgg3,
  z3 := Tryz.sizeOf3,
  v3 := Tryz.zeroValue3,
  t4 := Tryz.underlying4,
  a4 := Tryz.isAgg4,
  z4 := Tryz.sizeOf4,
  v4 := Tryz.zeroValue4,
  t5 := Tryz.underlying5,
  a5 := Tryz.isAgg5,
  z5 := Tryz.sizeOf5,
  v5 := Tryz.zeroValue5,
  t9 := Tryz.underlying9,
  a9 := Tryz.isAgg9,
  z9 := Tryz.sizeOf9,
  v9 := Tryz.zeroValue9,
  t22 := Tryz.underlying49,
  a22 := Tryz.isAgg49,
  z22 := Tryz.sizeOf49,
  v22 := Tryz.zeroValue49,
  t25 := Tryz.underlying77,
  a25 := Tryz.isAgg77,
  z25 := Tryz.sizeOf77,
  v25 := Tryz.zeroValue77,
  t39 := Tryz.underlying89,
  a39 := Tryz.isAgg89,
  z39 := Tryz.sizeOf89,
  v39 := Tryz.zeroValue89,
  t45 := Tryz.underlying114,
  a45 := Tryz.isAgg114,
  z45 := Tryz.sizeOf114,
  v45 := Tryz.zeroValue114,
  t46 := Tryz.underlying115,
  a46 := Tryz.isAgg115,
  z46 := Tryz.sizeOf115,
  v46 := Tryz.zeroValue115,
  t50 := Tryz.underlying119,
  a50 := Tryz.isAgg119,
  z50 := Tryz.sizeOf119,
  v50 := Tryz.zeroValue119,
  t53 := Tryz.underlying122,
  a53 := Tryz.isAgg122,
  z53 := Tryz.sizeOf122,
  v53 := Tryz.zeroValue122,
  t55 := Tryz.underlying98,
  a55 := Tryz.isAgg98,
  z55 := Tryz.sizeOf98,
  v55 := Tryz.zeroValue98,
  t66 := Tryz.underlying134,
  a66 := Tryz.isAgg134,
  z66 := Tryz.sizeOf134,
  v66 := Tryz.zeroValue134,
  t70 := Tryz.underlying138,
  a70 := Tryz.isAgg138,
  z70 := Tryz.sizeOf138,
  v70 := Tryz.zeroValue138,
  t76 := Tryz.underlying149,
  a76 := Tryz.isAgg149,
  z76 := Tryz.sizeOf149,
  v76 := Tryz.zeroValue149,
  t77 := Tryz.underlying150,
  a77 := Tryz.isAgg150,
  z77 := Tryz.sizeOf150,
  v77 := Tryz.zeroValue150 }


def cmpL_ren : Go.Shelf.Ren := ⟨fun | 106 => 38 | 213 => 54 | 265 => 84 | n => n, fun | 9 => 9 | 3 => 3 | n => n, fun | n => n⟩
theorem cmpL : Go.Proofs.Lays.n106 Tryz.prog cmpL_ren := {
  mixed := by kernel_rfl,
  f106 := Tryz.func38.trans (congrArg some (by kernel_rfl)),
  f213 := Tryz.func54.trans (congrArg some (by kernel_rfl)),
  f265 := Tryz.func84.trans (congrArg some (by kernel_rfl)),
  t3 := Tryz.underlying3,
  a3 := Tryz.isAgg3,
  z3 := Tryz.sizeOf3,
  v3 := Tryz.zeroValue3,
  t9 := Tryz.underlying9,
  a9 := Tryz.isAgg9,
  z9 := Tryz.sizeOf9,
  v9 := Tryz.zeroValue9 }


theorem compare_any (a b : ByteArray) (w : World) : Calls Tryz.prog 38 #[.string a, .string b] w fun e w' => e = .returned (.int .i64 (Lib.compareBytes a.data.toList b.data.toList)) ∧ w' = w := Any.strings_Compare cmpL a b w

theorem lt_ahead (x y : One) : ltOf cf x y = true ↔ ahead x y := by unfold ltOf; rw [decide_eq_true_iff]; exact cf_ahead x y
theorem cf_swo : Go.Sort.SWO (ltOf cf) where
  irrefl x := by
    rw [Bool.eq_false_iff]
    intro h; exact ahead_irrefl x ((lt_ahead x x).1 h)
  trans x y z h k := (lt_ahead x z).2 (ahead_trans ((lt_ahead x y).1 h) ((lt_ahead y z).1 k))
  ntrans x y z h k := by
    rw [Bool.eq_false_iff] at *
    intro c
    have c' := (lt_ahead x z).1 c
    have h' : ¬ ahead x y := fun e => h ((lt_ahead x y).2 e)
    have k' : ¬ ahead y z := fun e => k ((lt_ahead y z).2 e)
    rcases ahead_total x y with e | e | e
    · subst e; exact k' c'
    · exact h' e
    · exact k' (ahead_trans e c')

theorem sort_says : SortSays := by
  intro d g cap w hH hg hlen
  have eg : ∀ args w, (callFunc 36 args).run Tryz.prog w = .ok (.enter 36 args) w := enters_of Tryz.func36 (by kernel_rfl) rfl
  have h := AnyQ.slices_SortFunc_total sortL 3 Tryz.isAgg55 Tryz.sizeOf55 One.cs (fun _ => rfl) (fun x v hv => by simp [One.cs] at hv; rcases hv with rfl | rfl | rfl <;> rfl) cf cf_swo 36 #[] g 0 cap d.toArray w eg
    (fun _ _ _ _ x y => less_any compare_any x y _) hH hg (by simpa using hlen) (fun x y h1 h2 => by
      rw [Bool.eq_false_iff] at h1 h2
      rcases ahead_total x y with e | e | e
      · exact e
      · exact absurd ((lt_ahead x y).2 e) h1
      · exact absurd ((lt_ahead y x).2 e) h2)
  exact h
theorem sort_none : SortNone := fun p cap fv w => AnyF.slices_SortFunc_none sortL p cap fv w

end Go.Proofs.YtgelaffifjicoaaGreatDoor
