/-
  THE KEYS OF package policy's MAPS: numbers of periods (int64), and what tells snapshots apart (a struct of a string and two integers).
-/
import Derived.Test.YtgelaffifjicoaaGreatDoorPol
import Derived.Test.YtgelaffifjicoaaGreatDoorMaps
namespace Go.Proofs.YtgelaffifjicoaaGreatDoor
open Go.RowKit Go.Maps Go.WideMaps Go.ChangeMaps Go.WideElems Go.WideShapes Go.MapKept
set_option linter.unusedSimpArgs false
set_option linter.unusedVariables false

def okI (x : Int) : Prop := -9223372036854775808 ≤ x ∧ x ≤ 9223372036854775807
theorem wf_okI {x : Int} (h : okI x) : (Lit.int .i64 x).wf = true := WalkArith.wf_i64 (by unfold okI at h; omega)
theorem okI_wf {x : Int} (h : (Lit.int .i64 x).wf = true) : okI x := by
  simp [Lit.wf, IntKind.min, IntKind.max, IntKind.signed, IntKind.bits] at h
  unfold okI; omega
def klI (x : Int) : Lit := .int .i64 x
theorem keysI : KeyOf 2 (Value.int .i64) okI klI where
  law := int_keyed Tryz.underlying2
  key := fun x h => keyOf_int_mk Tryz.underlying2 (wf_okI h)
  inj := fun x y h => by injection h

def One.ok (x : One) : Prop := x.m.size ≤ maxLen ∧ okI x.n ∧ okI x.t
def Ref.ok (x : Ref) : Prop := x.m.size ≤ maxLen ∧ okI x.n ∧ okI x.t ∧ x.nm.size ≤ maxLen ∧ okI x.u
def klO (x : One) : Lit := .string (keyBytes [.string x.m.data.toList, .int .i64 x.n, .int .i64 x.t])

theorem laidOut : laidOutB Tryz.prog = true := by kernel_rfl
theorem keyType_one : Tryz.prog.keyType 55 = true := by kernel_rfl
theorem wide_one : (match Tryz.prog.underlying 55 with | some (.array _ _) | some (.struct _) => true | _ => false) = true := by kernel_rfl
theorem size_types : ∃ m, Tryz.prog.types.size = m + 2 := ⟨Tryz.prog.types.size - 2, by kernel_rfl⟩
theorem cells_one : Tryz.prog.cellsOf 55 = 3 := by kernel_rfl
theorem cells_str : Tryz.prog.cellsOf 9 = 1 := by kernel_rfl
theorem cells_int : Tryz.prog.cellsOf 3 = 1 := by kernel_rfl
theorem cells_int64 : Tryz.prog.cellsOf 2 = 1 := by kernel_rfl
theorem row_one : 55 < Tryz.prog.types.size := of_decide_eq_true (by kernel_rfl)

theorem keyOf_one {x : One} (h : x.ok) : keyOf Tryz.prog 55 x.v = some (klO x) := by
  obtain ⟨h0, h1, h2⟩ := h
  obtain ⟨m, hm⟩ := size_types
  have w1 := wf_okI h1
  have w2 := wf_okI h2
  unfold keyOf
  rw [Tryz.underlying55]
  dsimp only
  rw [if_pos (by simp [keyType_one, Value.formed, Tryz.underlying55, cells_one]), hm]
  unfold Program.keyLits
  rw [Tryz.underlying55]
  simp [Value.cells, cells_one, cells_str, cells_int, cells_int64, Program.keyLits, Tryz.underlying9, Tryz.underlying3, Tryz.underlying2, h0, w1, w2, klO]

theorem keyAt_one : Tryz.prog.keyTypeAt 2 55 = true := by kernel_rfl
set_option maxRecDepth 100000 in
theorem law_one : KeyLaw Tryz.prog 55 := deep_law_laid laidOut (m := 2) (by omega) row_one keyAt_one (by kernel_rfl)
theorem keysO : KeyOf 55 One.v One.ok klO where
  law := Keyed.of_law law_one
  key := fun x h => keyOf_one h
  inj := fun x y h => by
    unfold One.v at h
    simp at h
    cases x; cases y; simp_all

end Go.Proofs.YtgelaffifjicoaaGreatDoor
