/-
  A START THAT IS SHOWN TO BE THERE: the settled world, the seven listed variables holding what their initialisers lay.
-/
import Derived.Test.YtgelaffifjicoaaGreatDoorRows
import Derived.ProofKit
import Derived.OpenShut
import Derived.Deep.DeepHandedRow
import Derived.Shelf.LaysM
import Derived.LaidLaws
import Derived.Lib.LaidTab
import Derived.Lib.LaidU8
import Derived.Test.YtgelaffifjicoaaGreatDoorDecs
namespace Go.Proofs.YtgelaffifjicoaaGreatDoor
open Go.ChangeShapes Go.WideShapes Go.ChangeAt Go.RowKit
set_option linter.unusedSimpArgs false
set_option linter.unusedVariables false

def zB32 : List Int := [0, 1, 28, 2, 29, 14, 24, 3, 30, 22, 20, 15, 25, 17, 4, 8, 31, 27, 13, 23, 21, 19, 16, 7, 26, 12, 18, 6, 11, 5, 10, 9]
def zB64 : List Int := [0, 1, 56, 2, 57, 49, 28, 3, 61, 58, 42, 50, 38, 29, 17, 4, 62, 47, 59, 36, 45, 43, 51, 22, 53, 39, 33, 30, 24, 18, 12, 5, 63, 55, 48, 27, 60, 41, 37, 16, 46, 35, 44, 21, 52, 32, 23, 11, 54, 26, 40, 15, 34, 20, 31, 10, 25, 14, 19, 9, 13, 8, 7, 6]
def zP10 : List Int := [1, 10, 100, 1000, 10000, 100000, 1000000, 10000000, 100000000, 1000000000, 10000000000, 100000000000, 1000000000000, 10000000000000, 100000000000000, 1000000000000000, 10000000000000000, 100000000000000000, 1000000000000000000, 10000000000000000000]
def zAcc : List Int := [128, 191, 160, 191, 128, 159, 144, 191, 128, 143, 0, 0, 0, 0, 0, 0, 0, 0, 0, 0, 0, 0, 0, 0, 0, 0, 0, 0, 0, 0, 0, 0]
def errSyntaxB : ByteArray := ⟨#[105, 110, 118, 97, 108, 105, 100, 32, 115, 121, 110, 116, 97, 120]⟩
def errRangeB : ByteArray := ⟨#[118, 97, 108, 117, 101, 32, 111, 117, 116, 32, 111, 102, 32, 114, 97, 110, 103, 101]⟩
noncomputable def laidWorld (os : Os) : World :=
  let N := (World.settled Tryz.prog os).heap.size
  let w0 := World.holding Tryz.prog os ⟨#[.cells #[.string errRangeB] 148, .cells #[.string errSyntaxB] 148], #[], []⟩
  let put (h : Array Obj) (g : Nat) (cs : Array Value) : Array Obj := h.modify g fun
    | .cells _ t frozen => .cells cs t frozen
    | o => o
  let h0 := put (put w0.heap 1 #[.iface 146 (.pointer (some ⟨N + 1, 0, none⟩))]) 2 #[.iface 146 (.pointer (some ⟨N, 0, none⟩))]
  let h1 := put (put (put h0 3 (zP10.map (Value.int .u64)).toArray) 6 (zB32.map (Value.int .u8)).toArray) 7 (zB64.map (Value.int .u8)).toArray
  let h2 := put (put h1 4 (Go.Pinned.utf8FirstZ.map fun n : Nat => Value.int .u8 (n : Int)).toArray) 5 (zAcc.map (Value.int .u8)).toArray
  { w0 with heap := h2 }
theorem maxLen_cell (w : World) (h : w.ShapedOpen Tryz.prog) : ∃ m : Int, w.cell? ⟨0, 0, none⟩ = some (.int .i64 m) :=
  Go.Proofs.cell_of_shapedOpen_int (zero := #[.int .i64 0]) (t := 3) h (of_decide_eq_true (by kernel_rfl)) (by kernel_rfl) rfl (by kernel_rfl) (by kernel_rfl) Tryz.underlying3
theorem own49 : ownKnob Tryz.prog.godebug = none := by kernel_rfl
set_option maxRecDepth 1000000 in
theorem laid_turned (os : Os) (args : Array Value) : laidMet Tryz.prog Rows.policyTextsRow.laid ((laidWorld os).forCall (fun _ _ => 0) ⟨#[], args, []⟩).memory :=
  laidMet_of_run' 10 (by kernel_rfl) (by kernel_rfl)

theorem libZ_of {W : World} (hsh : W.ShapedOpen Tryz.prog) (hL : laidMet Tryz.prog Rows.policyTextsRow.laid W) : LibZ W := by
  refine ⟨maxLen_cell W hsh, ?_, ?_, ?_⟩
  · obtain ⟨g, t, cs, fuel, p, hg, ht, hvar, hd⟩ := Go.Lib.laidMet.reads hL (n := "internal/strconv.uint64pow10") (d := Rows.laid_internal_strconv_uint64pow10) (.tail _ (.tail _ (.head _)))
    obtain rfl : g = 3 := Option.some.inj (hg.symm.trans (by kernel_rfl))
    obtain rfl : t = 132 := Option.some.inj (ht.symm.trans (by kernel_rfl))
    unfold Lib.TabIs
    rw [hvar, ← Lib.cells_of_tab (zs := Lib.pow10Tab) Tryz.underlying132 Tryz.underlying98 (by kernel_rfl) (by kernel_rfl) hd]
  · obtain ⟨g, t, cs, fuel, p, hg, ht, hvar, hd⟩ := Go.Lib.laidMet.reads hL (n := "strconv.ErrSyntax") (d := Rows.laid_strconv_ErrSyntax) (.tail _ (.tail _ (.tail _ (.tail _ (.tail _ (.head _))))))
    obtain rfl : g = 1 := Option.some.inj (hg.symm.trans (by kernel_rfl))
    obtain rfl : t = 59 := Option.some.inj (ht.symm.trans (by kernel_rfl))
    obtain ⟨l⟩ := cs
    obtain ⟨f1, u, v, rfl, _, _⟩ := iface_of_trod Tryz.underlying59 hd
    exact ⟨u, v, by simpa using World.var?_cell hg hvar 0⟩
  · obtain ⟨g, t, cs, fuel, p, hg, ht, hvar, hd⟩ := Go.Lib.laidMet.reads hL (n := "strconv.ErrRange") (d := Rows.laid_strconv_ErrRange) (.tail _ (.tail _ (.tail _ (.tail _ (.head _)))))
    obtain rfl : g = 2 := Option.some.inj (hg.symm.trans (by kernel_rfl))
    obtain rfl : t = 59 := Option.some.inj (ht.symm.trans (by kernel_rfl))
    obtain ⟨l⟩ := cs
    obtain ⟨f1, u, v, rfl, _, _⟩ := iface_of_trod Tryz.underlying59 hd
    exact ⟨u, v, by simpa using World.var?_cell hg hvar 0⟩

end Go.Proofs.YtgelaffifjicoaaGreatDoor
