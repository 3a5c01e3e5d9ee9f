/-
  THE KEYS OF package policy's MAPS: numbers of periods (int64), and what tells snapshots apart (a struct of a string and two integers).
-/
import Derived.Test.YtgelaffifjicoaaDoorPol
import Derived.Test.YtgelaffifjicoaaDoorMaps
namespace Go.Proofs.YtgelaffifjicoaaDoor
open Go.RowKit Go.Maps Go.WideMaps Go.ChangeMaps Go.WideElems Go.WideShapes Go.MapKept
set_option linter.unusedSimpArgs false
set_option linter.unusedVariables false

def okI (x : Int) : Prop := -9223372036854775808 ≤ x ∧ x ≤ 9223372036854775807
theorem wf_okI {x : Int} (h : okI x) : (Lit.int .i64 x).wf = true := WalkArith.wf_i64 (by unfold okI at h; omega)
theorem okI_wf {x : Int} (h : (Lit.int .i64 x).wf = true) : okI x := by
  simp [Lit.wf, IntKind.min, IntKind.max, IntKind.signed, IntKind.bits] at h
  unfold okI; omega
def klI (x : Int) : Lit := .int .i64 x
theorem keysI : KeyOf 2 (Value.int .i64) okI klI where
  law := int_keyed Tryd.underlying2
  key := fun x h => keyOf_int_mk Tryd.underlying2 (wf_okI h)
  inj := fun x y h => by injection h

def One.ok (x : One) : Prop := x.m.size ≤ maxLen ∧ okI x.n ∧ okI x.t
def Ref.ok (x : Ref) : Prop := x.m.size ≤ maxLen ∧ okI x.n ∧ okI x.t ∧ x.nm.size ≤ maxLen ∧ okI x.u
def klO (x : One) : Lit := .string (keyBytes [.string x.m.data.toList, .int .i64 x.n, .int .i64 x.t])

theorem laidOut : laidOutB Tryd.prog = true := by kernel_rfl
theorem keyType_one : Tryd.prog.keyType 58 = true := by kernel_rfl
theorem wide_one : (match Tryd.prog.underlying 58 with | some (.array _ _) | some (.struct _) => true | _ => false) = true := by kernel_rfl
theorem size_types : ∃ m, Tryd.prog.types.size = m + 2 := ⟨Tryd.prog.types.size - 2, by kernel_rfl⟩
theorem cells_one : Tryd.prog.cellsOf 58 = 3 := by kernel_rfl
theorem cells_str : Tryd.prog.cellsOf 9 = 1 := by kernel_rfl
theorem cells_int : Tryd.prog.cellsOf 3 = 1 := by kernel_rfl
theorem cells_int64 : Tryd.prog.cellsOf 2 = 1 := by kernel_rfl
theorem row_one : 58 < Tryd.prog.types.size := of_decide_eq_true (by kernel_rfl)

theorem keyOf_one {x : One} (h : x.ok) : keyOf Tryd.prog 58 x.v = some (klO x) := by
  obtain ⟨h0, h1, h2⟩ := h
  obtain ⟨m, hm⟩ := size_types
  have w1 := wf_okI h1
  have w2 := wf_okI h2
  unfold keyOf
  rw [Tryd.underlying58]
  dsimp only
  rw [if_pos (by simp [keyType_one, Value.formed, Tryd.underlying58, cells_one]), hm]
  unfold Program.keyLits
  rw [Tryd.underlying58]
  simp [Value.cells, cells_one, cells_str, cells_int, cells_int64, Program.keyLits, Tryd.underlying9, Tryd.underlying3, Tryd.underlying2, h0, w1, w2, klO]

theorem keyAt_one : Tryd.prog.keyTypeAt 2 58 = true := by kernel_rfl
set_option maxRecDepth 100000 in
theorem law_one : KeyLaw Tryd.prog 58 := deep_law_laid laidOut (m := 2) (by omega) row_one keyAt_one (by kernel_rfl)
theorem keysO : KeyOf 58 One.v One.ok klO where
  law := Keyed.of_law law_one
  key := fun x h => keyOf_one h
  inj := fun x y h => by
    unfold One.v at h
    simp at h
    cases x; cases y; simp_all

end Go.Proofs.YtgelaffifjicoaaDoor
