/-
  WALKS: the law's example holds; the law's 'Great'.
-/
import Derived.Test.YtgelaffifjicoaaGreatDoorOf49
import Derived.Test.YtgelaffifjicoaaGreatDoorSmall
namespace Go.Proofs.YtgelaffifjicoaaGreatDoor
open Go.RowKit
set_option linter.unusedSimpArgs false
set_option linter.unusedVariables false

set_option maxRecDepth 100000 in
set_option maxHeartbeats 2000000 in
theorem alive49_any (m : Int) (w : World) (hm : w.cell? ⟨0, 0, none⟩ = some (.int .i64 m)) :
    Calls Tryz.prog 4 #[] w fun e w' => e = .returned (.bool true) ∧ Below w.heap.size w w' := by
  have b0 : ∀ w, (Instr.build 23 #[]).run Tryz.prog w = .ok (.agg #[.int .i64 0, .int .i64 0, .int .i64 0, .int .i64 0]) w := fun w => run_build w 23 _ _ (by kernel_rfl)
  have b1 : ∀ w, (Instr.build 23 #[(0, .int .i64 2)]).run Tryz.prog w = .ok (.agg #[.int .i64 2, .int .i64 0, .int .i64 0, .int .i64 0]) w := fun w => run_build w 23 _ _ (by kernel_rfl)
  have b2 : ∀ (w : World) (b c : Int), (Instr.build 34 #[(1, .int .i64 b), (2, .int .i64 c)]).run Tryz.prog w = .ok (.agg #[.string ⟨#[]⟩, .int .i64 b, .int .i64 c, .string ⟨#[]⟩, .int .i64 0]) w := fun w b c => run_build w 34 _ _ (by kernel_rfl)
  have hmb := World.block_lt_of_cell? w _ hm
  have HM := Lib.hid hm
  clear hm
  go_enter Tryz.func4, Tryz.ntmps4
  go_wp2_with fail
  obtain ⟨W0, hW0⟩ : ∃ W, W = w.alloc (.cells #[.int .i64 2, .int .i64 0, .int .i64 0, .int .i64 0] 23) := ⟨_, rfl⟩
  have hs0 : W0.heap.size = w.heap.size + 1 := by rw [hW0]; simp
  have ho : (W0.alloc (.cells #[.string ⟨#[]⟩, .int .i64 1, .int .i64 5000, .string ⟨#[]⟩, .int .i64 0, .string ⟨#[]⟩, .int .i64 2, .int .i64 5100, .string ⟨#[]⟩, .int .i64 0, .string ⟨#[]⟩, .int .i64 3, .int .i64 6000, .string ⟨#[]⟩, .int .i64 0, .string ⟨#[]⟩, .int .i64 4, .int .i64 10000, .string ⟨#[]⟩, .int .i64 0] 34)).ownsRow W0.heap.size 34 5 (.slice (some ⟨W0.heap.size, 0, none⟩) 4 4) 4 ([ex1, ex2, ex3, ex4].flatMap Ref.cs) :=
    World.ownsRow_lit W0 #[.string ⟨#[]⟩, .int .i64 1, .int .i64 5000, .string ⟨#[]⟩, .int .i64 0, .string ⟨#[]⟩, .int .i64 2, .int .i64 5100, .string ⟨#[]⟩, .int .i64 0, .string ⟨#[]⟩, .int .i64 3, .int .i64 6000, .string ⟨#[]⟩, .int .i64 0, .string ⟨#[]⟩, .int .i64 4, .int .i64 10000, .string ⟨#[]⟩, .int .i64 0] 4 (Nat.le_refl _) (by decide) rfl
  have bP : Blk (W0.alloc (.cells #[.string ⟨#[]⟩, .int .i64 1, .int .i64 5000, .string ⟨#[]⟩, .int .i64 0, .string ⟨#[]⟩, .int .i64 2, .int .i64 5100, .string ⟨#[]⟩, .int .i64 0, .string ⟨#[]⟩, .int .i64 3, .int .i64 6000, .string ⟨#[]⟩, .int .i64 0, .string ⟨#[]⟩, .int .i64 4, .int .i64 10000, .string ⟨#[]⟩, .int .i64 0] 34)) w.heap.size 23 #[.int .i64 2, .int .i64 0, .int .i64 0, .int .i64 0] := by rw [hW0]; exact (Blk.new w _ _).alloc _
  have hb0 : Below w.heap.size w (W0.alloc (.cells #[.string ⟨#[]⟩, .int .i64 1, .int .i64 5000, .string ⟨#[]⟩, .int .i64 0, .string ⟨#[]⟩, .int .i64 2, .int .i64 5100, .string ⟨#[]⟩, .int .i64 0, .string ⟨#[]⟩, .int .i64 3, .int .i64 6000, .string ⟨#[]⟩, .int .i64 0, .string ⟨#[]⟩, .int .i64 4, .int .i64 10000, .string ⟨#[]⟩, .int .i64 0] 34)) := by rw [hW0]; exact ((Below.refl _ w).alloc (Nat.le_refl _) _).alloc (by simp) _
  rw [← hW0]
  rw [hs0] at ho
  have hz1 : w.heap.size < (W0.alloc (.cells #[.string ⟨#[]⟩, .int .i64 1, .int .i64 5000, .string ⟨#[]⟩, .int .i64 0, .string ⟨#[]⟩, .int .i64 2, .int .i64 5100, .string ⟨#[]⟩, .int .i64 0, .string ⟨#[]⟩, .int .i64 3, .int .i64 6000, .string ⟨#[]⟩, .int .i64 0, .string ⟨#[]⟩, .int .i64 4, .int .i64 10000, .string ⟨#[]⟩, .int .i64 0] 34)).heap.size := by simp [hs0]; omega
  refine (keep_any exP2 [ex1, ex2, ex3, ex4] ex4_ok 0 (some ⟨w.heap.size + 1, 0, none⟩) 4 _ (Reads.of_own ho) (by decide)).mono ?_
  rintro e w1 ⟨v, rfl, hok, hb1⟩
  obtain ⟨Ak, ck, rfl⟩ := own_slice hok
  rw [exKeep] at hok
  have bP1 := bP.below hb1 hz1
  have hbw := hb0.trans (hb1.mono hb0.size)
  have hrk := Reads.of_own hok
  obtain ⟨bk, ok, v0, hA, hv0, hbk, k0⟩ := hrk.single (k := 0) (by decide)
  obtain ⟨bk1, ok1, v1, hA1, hv1, hbk1, k1⟩ := hrk.single (k := 1) (by decide)
  obtain ⟨bk2, ok2, v2, hA2, hv2, hbk2, k2⟩ := hrk.single (k := 2) (by decide)
  obtain ⟨bk3, ok3, v3, hA3, hv3, hbk3, k3⟩ := hrk.single (k := 3) (by decide)
  subst hA
  simp only [Option.some.injEq, Addr.mk.injEq, and_true] at hA1 hA2 hA3
  obtain ⟨rfl, rfl⟩ := hA1
  obtain ⟨rfl, rfl⟩ := hA2
  obtain ⟨rfl, rfl⟩ := hA3
  simp at hv0 hv1 hv2 hv3
  subst hv0 hv1 hv2 hv3
  have hm1 := (hbw.cell (p := ⟨0, 0, none⟩) hmb).trans HM.out
  have HB1 := Lib.hid hbw; have HP1 := Lib.hid bP1
  clear hW0 ho bP hb0 hb1 hok bP1 hbw hrk hs0 hz1
  go_wp2_with fail
  refine (ofEx_any m w1 hm1).mono ?_; rintro e w2 ⟨rfl, hb2⟩
  have hs2 := hb2.size
  have k0 := (hb2.cell (p := ⟨bk, ok + 0, none⟩) hbk).trans k0
  rw [Nat.add_zero] at k0
  have k1 := (hb2.cell (p := ⟨bk, ok + 1, none⟩) hbk).trans k1
  have k2 := (hb2.cell (p := ⟨bk, ok + 2, none⟩) hbk).trans k2
  have k3 := (hb2.cell (p := ⟨bk, ok + 3, none⟩) hbk).trans k3
  have bP2 := HP1.out.below hb2 HP1.out.lt
  have p0 := bP2.cell 0; have p1 := bP2.cell 1; have p2 := bP2.cell 2; have p3 := bP2.cell 3
  simp only [List.getElem?_toArray, List.getElem?_cons_zero, List.getElem?_cons_succ] at p0 p1 p2 p3
  have hbk' : bk < w2.heap.size := by omega
  have hwb : w.heap.size < w2.heap.size := bP2.lt
  have hbw2 := (HB1.out.trans (hb2.mono HB1.out.size)).alloc (by have := HB1.out.size; omega) (.cells #[.int .i64 7, .int .i64 0, .int .i64 0, .int .i64 0] 23)
  have HB2 := Lib.hid hbw2
  clear hb2 bP2 hbw2 hm1
  go_wp2_with fail
  refine (check_any 2 0 0 0 _).mono ?_; rintro e w3 ⟨rfl, hb3⟩
  have hc1 : polChk 2 0 0 0 = 0 := by decide +kernel
  rw [hc1]
  have HB3 := Lib.hid (HB2.out.trans (hb3.mono HB2.out.size))
  clear hb3 p0 p1 p2 p3 k0 k1 k2 k3
  go_wp2_with fail
  refine (check_any 0 0 0 0 _).mono ?_; rintro e w4 ⟨rfl, hb4⟩
  have hc2 : polChk 0 0 0 0 = 1 := by decide +kernel
  rw [hc2]
  have HB4 := Lib.hid (HB3.out.trans (hb4.mono HB3.out.size))
  clear hb4
  go_wp2_with fail
  go_ret
  exact ⟨rfl, HB4.out⟩

end Go.Proofs.YtgelaffifjicoaaGreatDoor
