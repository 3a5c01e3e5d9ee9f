/-
  THE LIBRARY's SORT AND COMPARE AT THIS PROGRAM: the table of numbers by which the kit's contracts apply, laid out in plain words; what the sort makes of snapshots.
-/
import Derived.Shelf.SlSortCmp.NoneTotal
import Derived.Shelf.Small.Strs
import Derived.Test.YtfjlhcapkfcpkaaSorted
namespace Go.Proofs.Ytfjlhcapkfcpkaa
open Go.Shelf Go.RowKit
set_option linter.unusedSimpArgs false
set_option linter.unusedVariables false

def sortL_ren : Go.Shelf.Ren := ⟨fun | 6 => 39 | 15 => 50 | 14 => 49 | 28 => 66 | 29 => 67 | 20 => 58 | 21 => 59 | 22 => 60 | 23 => 61 | 24 => 62 | 25 => 63 | 26 => 64 | 27 => 65 | 46 => 73 | 47 => 74 | 48 => 75 | 49 => 76 | 50 => 77 | 57 => 80 | n => n, fun | 22 => 72 | 24 => 80 | 25 => 88 | 3 => 3 | 39 => 98 | 0 => 0 | 53 => 114 | 55 => 47 | 4 => 4 | 46 => 107 | 45 => 106 | 50 => 111 | 5 => 5 | 9 => 9 | 66 => 117 | 70 => 121 | 76 => 123 | 77 => 124 | n => n, fun | n => n⟩
theorem sortL : Go.Proofs.SlLaysF0.n6 Try.prog sortL_ren := {
  mixed := by kernel_rfl,
  f6 := ⟨Try.f39.name, by decide, Try.func39.trans (congrArg some (by kernel_rfl))⟩,
  f14 := ⟨Try.f49.name, by decide, Try.func49.trans (congrArg some (by kernel_rfl))⟩,
  f15 := Try.func50.trans (congrArg some (by kernel_rfl)),
  f20 := ⟨Try.f58.name, by decide, Try.func58.trans (congrArg some (by kernel_rfl))⟩,
  f21 := ⟨Try.f59.name, by decide, Try.func59.trans (congrArg some (by kernel_rfl))⟩,
  f22 := ⟨Try.f60.name, by decide, Try.func60.trans (congrArg some (by kernel_rfl))⟩,
  f23 := ⟨Try.f61.name, by decide, Try.func61.trans (congrArg some (by kernel_rfl))⟩,
  f24 := ⟨Try.f62.name, by decide, Try.func62.trans (congrArg some (by kernel_rfl))⟩,
  f25 := ⟨Try.f63.name, by decide, Try.func63.trans (congrArg some (by kernel_rfl))⟩,
  f26 := ⟨Try.f64.name, by decide, Try.func64.trans (congrArg some (by kernel_rfl))⟩,
  f27 := ⟨Try.f65.name, by decide, Try.func65.trans (congrArg some (by kernel_rfl))⟩,
  f28 := Try.func66.trans (congrArg some (by kernel_rfl)),
  f29 := Try.func67.trans (congrArg some (by kernel_rfl)),
  f46 := ⟨Try.f73.name, by decide, Try.func73.trans (congrArg some (by kernel_rfl))⟩,
  f47 := Try.func74.trans (congrArg some (by kernel_rfl)),
  f48 := Try.func75.trans (congrArg some (by kernel_rfl)),
  f49 := ⟨Try.f76.name, by decide, Try.func76.trans (congrArg some (by kernel_rfl))⟩,
  f50 := ⟨Try.f77.name, by decide, Try.func77.trans (congrArg some (by kernel_rfl))⟩,
  f57 := ⟨Try.f80.name, by decide, Try.func80.trans (congrArg some (by kernel_rfl))⟩,
  t0 := Try.underlying0,
  a0 := Try.isAgg0,
  z0 := Try.sizeOf0,
  v0 := Try.zeroValue0,
  t3 := Try.underlying3,
  a3 := Try.isAgg3,
  z3 := Try.sizeOf3,
  v3 := Try.zeroValue3,
  t4 := Try.underlying4,
  a4 := Try.isAgg4,
  z4 := Try.sizeOf4,
  v4 := Try.zeroValue4,
  t5 := Try.underlying5,
  a5 := Try.isAgg5,
  z5 := Try.sizeOf5,
  v5 := Try.zeroValue5,
  t9 := Try.underlying9,
  a9 := Try.isAgg9,
  z9 := Try.sizeOf9,
  v9 := Try.zeroValue9,
  t22 := Try.underlying72,
  a22 := Try.isAgg72,
  z22 := Try.sizeOf72,
  v22 := Try.zeroValue72,
  t25 := Try.underlying88,
  a25 := Try.isAgg88,
  z25 := Try.sizeOf88,
  v25 := Try.zeroValue88,
  t39 := Try.underlying98,
  a39 := Try.isAgg98,
  z39 := Try.sizeOf98,
  v39 := Try.zeroValue98,
  t45 := Try.underlying106,
  a45 := Try.isAgg106,
  z45 := Try.sizeOf106,
  v45 := Try.zeroValue106,
  t46 := Try.underlying107,
  a46 := Try.isAgg107,
  z46 := Try.sizeOf107,
  v46 := Try.zeroValue107,
  t50 := Try.underlying111,
  a50 := Try.isAgg111,
  z50 := Try.sizeOf111,
  v50 := Try.zeroValue111,
  t53 := Try.underlying114,
  a53 := Try.isAgg114,
  z53 := Try.sizeOf114,
  v53 := Try.zeroValue114,
  t55 := Try.underlying47,
  a55 := Try.isAgg47,
  z55 := Try.sizeOf47,
  v55 := Try.zeroValue47,
  t66 := Try.underlying117,
  a66 := Try.isAgg117,
  z66 := Try.sizeOf117,
  v66 := Try.zeroValue117,
  t70 := Try.underlying121,
  a70 := Try.isAgg121,
  z70 := Try.sizeOf121,
  v70 := Try.zeroValue121,
  t76 := Try.underlying123,
  a76 := Try.isAgg123,
  z76 := Try.sizeOf123,
  v76 := Try.zeroValue123,
  t77 := Try.underlying124,
  a77 := Try.isAgg124,
  z77 := Try.sizeOf124,
  v77 := Try.zeroValue124 }


def cmpL_ren : Go.Shelf.Ren := ⟨fun | 106 => 42 | 213 => 51 | 265 => 68 | n => n, fun | 9 => 9 | 3 => 3 | n => n, fun | n => n⟩
theorem cmpL : Go.Proofs.Lays.n106 Try.prog cmpL_ren := {
  mixed := by kernel_rfl,
  f106 := Try.func42.trans (congrArg some (by kernel_rfl)),
  f213 := Try.func51.trans (congrArg some (by kernel_rfl)),
  f265 := Try.func68.trans (congrArg some (by kernel_rfl)),
  t3 := Try.underlying3,
  a3 := Try.isAgg3,
  z3 := Try.sizeOf3,
  v3 := Try.zeroValue3,
  t9 := Try.underlying9,
  a9 := Try.isAgg9,
  z9 := Try.sizeOf9,
  v9 := Try.zeroValue9 }


theorem compare_any (a b : ByteArray) (w : World) : Calls Try.prog 42 #[.string a, .string b] w fun e w' => e = .returned (.int .i64 (Lib.compareBytes a.data.toList b.data.toList)) ∧ w' = w := Any.strings_Compare cmpL a b w

theorem lt_ahead (x y : One) : ltOf cf x y = true ↔ ahead x y := by unfold ltOf; rw [decide_eq_true_iff]; exact cf_ahead x y
theorem cf_swo : Go.Sort.SWO (ltOf cf) where
  irrefl x := by
    rw [Bool.eq_false_iff]
    intro h; exact ahead_irrefl x ((lt_ahead x x).1 h)
  trans x y z h k := (lt_ahead x z).2 (ahead_trans ((lt_ahead x y).1 h) ((lt_ahead y z).1 k))
  ntrans x y z h k := by
    rw [Bool.eq_false_iff] at *
    intro c
    have c' := (lt_ahead x z).1 c
    have h' : ¬ ahead x y := fun e => h ((lt_ahead x y).2 e)
    have k' : ¬ ahead y z := fun e => k ((lt_ahead y z).2 e)
    rcases ahead_total x y with e | e | e
    · subst e; exact k' c'
    · exact h' e
    · exact k' (ahead_trans e c')

theorem sort_says : SortSays := by
  intro d g cap w hH hg hlen
  have eg : ∀ args w, (callFunc 40 args).run Try.prog w = .ok (.enter 40 args) w := enters_of Try.func40 (by kernel_rfl) rfl
  have h := AnyQ.slices_SortFunc_total sortL 3 Try.isAgg80 Try.sizeOf80 One.cs (fun _ => rfl) (fun x v hv => by simp [One.cs] at hv; rcases hv with rfl | rfl | rfl <;> rfl) cf cf_swo 40 #[] g 0 cap d.toArray w eg
    (fun _ _ _ _ x y => less_any compare_any x y _) hH hg (by simpa using hlen) (fun x y h1 h2 => by
      rw [Bool.eq_false_iff] at h1 h2
      rcases ahead_total x y with e | e | e
      · exact e
      · exact absurd ((lt_ahead x y).2 e) h1
      · exact absurd ((lt_ahead y x).2 e) h2)
  exact h
theorem sort_none : SortNone := fun p cap fv w => AnyF.slices_SortFunc_none sortL p cap fv w

end Go.Proofs.Ytfjlhcapkfcpkaa
