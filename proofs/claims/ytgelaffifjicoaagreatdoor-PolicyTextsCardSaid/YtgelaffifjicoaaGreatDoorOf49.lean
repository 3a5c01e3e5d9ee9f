/-
  WALKS: num.Dec and num.Int at a short number; policy.Of at the law's text.
-/
import Derived.Test.YtgelaffifjicoaaGreatDoorLibs
import Derived.Test.YtgelaffifjicoaaGreatDoorAl49
namespace Go.Proofs.YtgelaffifjicoaaGreatDoor
open Go.RowKit
set_option linter.unusedSimpArgs false
set_option linter.unusedVariables false

theorem below_bytes (w : World) (e : TypeId) (s : ByteArray) : Below w.heap.size w (Lib.bytesWorld w e s) := Lib.bytesWorld_below _ _ _

theorem dec_any (i : Nat) (hi : i < 100) (w : World) :
    Calls Tryz.prog 16 #[.int .i64 i] w fun e w' => e = .returned (.string ⟨(Lib.decDigits i).toArray⟩) ∧ w' = w := by
  go_enter Tryz.func16, Tryz.ntmps16
  go_wp2_with fail
  refine (Any.strconv_FormatInt_10_small fmtL i hi w).mono ?_; rintro e w1 ⟨rfl, rfl⟩
  go_wp2_with fail
  go_ret
  exact ⟨rfl, rfl⟩
theorem int_any (s : ByteArray) (i : Nat) (hi : i < 100) (h : Lib.parseIntB 64 s.data.toList = .ok (i : Int)) (hd : (⟨(Lib.decDigits i).toArray⟩ : ByteArray) = s) (hs : s.size ≤ 100) (w : World) :
    Calls Tryz.prog 13 #[.string s] w fun e w' => e = .returned (.tuple #[.int .i64 i, .bool true]) ∧ Below w.heap.size w w' := by
  go_enter Tryz.func13, Tryz.ntmps13
  go_wp2_with fail
  refine (Any.strconv_ParseInt_10_at64_ok parseL s (by omega) i h w).mono ?_; rintro e w1 ⟨rfl, hw⟩
  have hb : Below w.heap.size w w1 := by
    rcases hw with rfl | ⟨t, rfl⟩
    · exact Below.refl _ _
    · exact below_bytes _ _ _
  clear hw h
  go_wp2_with fail
  refine (dec_any i hi w1).mono ?_; rintro e w2 ⟨rfl, rfl⟩
  rw [hd]
  go_wp2_with fail
  go_ret2
  exact ⟨rfl, hb⟩

abbrev exT : ByteArray := ⟨#[55, 100, 32, 48, 119, 32, 48, 109, 32, 48, 121]⟩
abbrev exS : ByteArray := ⟨#[32]⟩
theorem exCount : Lib.countB exT exS = 3 := by decide +kernel
theorem exSplit : Lib.splitB exS 0 3 exT = [⟨#[55, 100]⟩, ⟨#[48, 119]⟩, ⟨#[48, 109]⟩, ⟨#[48, 121]⟩] := by decide +kernel
theorem infoStr : (Tryz.prog.info? 9).map (fun i => (i.zero, i.size, i.bytes)) = some (some (.string ByteArray.empty), 1, 16) := by kernel_rfl
theorem cut_any (a b : UInt8) (w : World) : Calls Tryz.prog 12 #[.string ⟨#[a, b]⟩, .string ⟨#[b]⟩] w fun e w' => e = .returned (.tuple #[.string ⟨#[a]⟩, .bool true]) ∧ w' = w := by
  refine (Any.strings_CutSuffix cutL ⟨#[a, b]⟩ ⟨#[b]⟩ w (show (2 : Nat) ≤ 9223372036854775807 by decide)).mono ?_
  rintro e w1 ⟨rfl, rfl⟩
  have h1 : Lib.hasSuffix [a, b] [b] = true := by simp [Lib.hasSuffix, List.isSuffixOf]
  have h2 : Lib.trimSuffix [a, b] [b] = [a] := by unfold Lib.trimSuffix; rw [if_pos h1]; rfl
  simp only [h1, h2]
  exact ⟨trivial, trivial⟩
theorem int0_any (w : World) : Calls Tryz.prog 13 #[.string ⟨#[48]⟩] w fun e w' => e = .returned (.tuple #[.int .i64 0, .bool true]) ∧ Below w.heap.size w w' :=
  int_any ⟨#[48]⟩ 0 (by decide) (by decide +kernel) (by decide +kernel) (by decide) w
theorem int7_any (w : World) : Calls Tryz.prog 13 #[.string ⟨#[55]⟩] w fun e w' => e = .returned (.tuple #[.int .i64 7, .bool true]) ∧ Below w.heap.size w w' :=
  int_any ⟨#[55]⟩ 7 (by decide) (by decide +kernel) (by decide +kernel) (by decide) w

theorem of49_results (W : World) (q : Nat) (c0 c1 c2 c3 v9 : Value) (tmps : Array Value) (h2 : tmps.getD 2 undef = .pointer (some ⟨q, 0, none⟩)) (h3 : tmps.getD 3 undef = v9)
    (bF : Blk W q 23 #[c0, c1, c2, c3]) :
    (results Tryz.f5 tmps).run Tryz.prog W = .ok (.tuple #[.agg #[c0, c1, c2, c3], v9]) W := by
  have q0 := bF.cell 0; have q1 := bF.cell 1; have q2 := bF.cell 2; have q3 := bF.cell 3
  simp only [List.getElem?_toArray, List.getElem?_cons_zero, List.getElem?_cons_succ] at q0 q1 q2 q3
  simp only [Array.getD_eq_getD_getElem?] at h2 h3
  simp [results, Tryz.results5, go_sem, h2, h3, q0, q1, q2, q3]
  try rfl

set_option maxRecDepth 100000 in
set_option maxHeartbeats 2000000 in
theorem ofEx_any (m : Int) (w : World) (hm : w.cell? ⟨0, 0, none⟩ = some (.int .i64 m)) :
    Calls Tryz.prog 5 #[.string exT] w fun e w' => e = .returned (.tuple #[.agg #[.int .i64 7, .int .i64 0, .int .i64 0, .int .i64 0], .int .i64 0]) ∧ Below w.heap.size w w' := by
  have b0 : ∀ w, (Instr.build 23 #[]).run Tryz.prog w = .ok (.agg #[.int .i64 0, .int .i64 0, .int .i64 0, .int .i64 0]) w := fun w => run_build w 23 _ _ (by kernel_rfl)
  have b1 : ∀ w, (Instr.build 23 #[(0, .int .i64 7), (1, .int .i64 0), (2, .int .i64 0), (3, .int .i64 0)]).run Tryz.prog w = .ok (.agg #[.int .i64 7, .int .i64 0, .int .i64 0, .int .i64 0]) w := fun w => run_build w 23 _ _ (by kernel_rfl)
  go_enter Tryz.func5, Tryz.ntmps5
  have hm1 := (World.cell?_alloc_lt w (.cells #[.int .i64 0, .int .i64 0, .int .i64 0, .int .i64 0] 23) _ (World.block_lt_of_cell? w _ hm)).trans hm
  go_wp2_with fail
  have hs := Any.strings_Split splitL infoStr exT exS m (w.alloc (.cells #[.int .i64 0, .int .i64 0, .int .i64 0, .int .i64 0] 23)) (by decide) hm1 (by decide)
  rw [exCount, exSplit] at hs
  refine hs.mono ?_; rintro e w1 ⟨rfl, hw1⟩
  simp only [List.map_cons, List.map_nil, World.size_alloc] at hw1
  have bP : Blk w1 w.heap.size 23 #[.int .i64 0, .int .i64 0, .int .i64 0, .int .i64 0] := by rw [hw1]; exact (Blk.new w _ _).alloc _
  have bS : Blk w1 (w.heap.size + 1) 9 #[.string ⟨#[55, 100]⟩, .string ⟨#[48, 119]⟩, .string ⟨#[48, 109]⟩, .string ⟨#[48, 121]⟩] := by
    have h0 := Blk.new (w.alloc (.cells #[.int .i64 0, .int .i64 0, .int .i64 0, .int .i64 0] 23)) 9 #[.string ⟨#[55, 100]⟩, .string ⟨#[48, 119]⟩, .string ⟨#[48, 109]⟩, .string ⟨#[48, 121]⟩]
    rw [World.size_alloc] at h0
    rw [hw1]; exact h0
  have hb1 : Below w.heap.size w w1 := by rw [hw1]; exact ((Below.refl _ w).alloc (Nat.le_refl _) _).alloc (by simp) _
  have hz1 : w1.heap.size = w.heap.size + 2 := by rw [hw1]; simp
  have hz2 : w.heap.size + 1 < w1.heap.size := by omega
  clear hw1 hs hm hm1 hz1
  have HP := Lib.hid bP; have HS := Lib.hid bS; have HB := Lib.hid hb1
  clear bP bS hb1
  go_wp2_with fail
  go_loopw [21] (fun i wr => ∃ k : Nat, k ≤ 4 ∧ i = .int .i64 k ∧ Blk wr w1.heap.size 38 (if k = 0 then #[.int .i64 0, .int .i64 0, .int .i64 0, .int .i64 0] else #[.int .i64 7, .int .i64 0, .int .i64 0, .int .i64 0]) ∧ Below w1.heap.size w1 wr)
    (fun i _ => 4 - (intOf i).toNat)
  case atStart => exact ⟨0, by omega, rfl, Blk.new _ _ _, (Below.refl _ _).alloc (Nat.le_refl _) _⟩
  case round =>
    obtain ⟨k, hk, rfl, hA, hbw⟩ := hrel
    rcases (show k = 0 ∨ k = 1 ∨ k = 2 ∨ k = 3 ∨ k = 4 from by omega) with rfl | rfl | rfl | rfl | rfl
    case inl =>
      rw [if_pos rfl] at hA
      have bS3 := HS.out.below hbw (by omega)
      have s0 := bS3.cell 0
      simp only [List.getElem?_toArray, List.getElem?_cons_zero, List.getElem?_cons_succ] at s0
      have HAr := Lib.hid hA
      clear hA bS3
      have hsl : ∀ W : World, (Instr.slice 9 (.string ⟨#[100, 119, 109, 121]⟩) (some (.int .i64 0)) (some (.int .i64 1)) none).run Tryz.prog W = .ok (.string ⟨#[100]⟩) W := fun W => by kernel_rfl
      go_wp2_with fail
      refine (cut_any 55 100 _).mono ?_; rintro e w4 ⟨rfl, rfl⟩
      go_wp2_with fail
      refine (int7_any _).mono ?_; rintro e w5 ⟨rfl, hb5⟩
      have hwz := hbw.size
      have hA5 := HAr.out.below hb5 HAr.out.lt
      have a0 := hA5.cell 0; have a1 := hA5.cell 1; have a2 := hA5.cell 2; have a3 := hA5.cell 3
      have f0 := hA5.frozen 0; have f1 := hA5.frozen 1; have f2 := hA5.frozen 2; have f3 := hA5.frozen 3
      simp only [List.getElem?_toArray, List.getElem?_cons_zero, List.getElem?_cons_succ] at a0 a1 a2 a3
      have hbw5 := hbw.trans (hb5.mono hwz)
      have HA5 := Lib.hid hA5; have HB5 := Lib.hid hbw5
      clear hA5 hbw5 hb5 hbw hsl s0
      go_wp2_with fail
      go_roundw
      case rel =>
        refine ⟨1, by omega, rfl, ?_, HB5.out.setCell (p := ⟨w1.heap.size, 0, none⟩) (Nat.le_refl _) _⟩
        have h := HA5.out.set_ 0 (.int .i64 7)
        simpa using h
      case measure => simp [intOf]
    case inr.inl =>
      rw [if_neg (by decide)] at hA
      have bS3 := HS.out.below hbw (by omega)
      have s0 := bS3.cell 1
      simp only [List.getElem?_toArray, List.getElem?_cons_zero, List.getElem?_cons_succ] at s0
      have HAr := Lib.hid hA
      clear hA bS3
      have hsl : ∀ W : World, (Instr.slice 9 (.string ⟨#[100, 119, 109, 121]⟩) (some (.int .i64 1)) (some (.int .i64 2)) none).run Tryz.prog W = .ok (.string ⟨#[119]⟩) W := fun W => by kernel_rfl
      go_wp2_with fail
      refine (cut_any 48 119 _).mono ?_; rintro e w4 ⟨rfl, rfl⟩
      go_wp2_with fail
      refine (int0_any _).mono ?_; rintro e w5 ⟨rfl, hb5⟩
      have hwz := hbw.size
      have hA5 := HAr.out.below hb5 HAr.out.lt
      have a0 := hA5.cell 0; have a1 := hA5.cell 1; have a2 := hA5.cell 2; have a3 := hA5.cell 3
      have f0 := hA5.frozen 0; have f1 := hA5.frozen 1; have f2 := hA5.frozen 2; have f3 := hA5.frozen 3
      simp only [List.getElem?_toArray, List.getElem?_cons_zero, List.getElem?_cons_succ] at a0 a1 a2 a3
      have hbw5 := hbw.trans (hb5.mono hwz)
      have HA5 := Lib.hid hA5; have HB5 := Lib.hid hbw5
      clear hA5 hbw5 hb5 hbw hsl s0
      go_wp2_with fail
      go_roundw
      case rel =>
        refine ⟨2, by omega, rfl, ?_, HB5.out.setCell (p := ⟨w1.heap.size, 1, none⟩) (Nat.le_refl _) _⟩
        have h := HA5.out.set_ 1 (.int .i64 0)
        simpa using h
      case measure => simp [intOf]
    case inr.inr.inl =>
      rw [if_neg (by decide)] at hA
      have bS3 := HS.out.below hbw (by omega)
      have s0 := bS3.cell 2
      simp only [List.getElem?_toArray, List.getElem?_cons_zero, List.getElem?_cons_succ] at s0
      have HAr := Lib.hid hA
      clear hA bS3
      have hsl : ∀ W : World, (Instr.slice 9 (.string ⟨#[100, 119, 109, 121]⟩) (some (.int .i64 2)) (some (.int .i64 3)) none).run Tryz.prog W = .ok (.string ⟨#[109]⟩) W := fun W => by kernel_rfl
      go_wp2_with fail
      refine (cut_any 48 109 _).mono ?_; rintro e w4 ⟨rfl, rfl⟩
      go_wp2_with fail
      refine (int0_any _).mono ?_; rintro e w5 ⟨rfl, hb5⟩
      have hwz := hbw.size
      have hA5 := HAr.out.below hb5 HAr.out.lt
      have a0 := hA5.cell 0; have a1 := hA5.cell 1; have a2 := hA5.cell 2; have a3 := hA5.cell 3
      have f0 := hA5.frozen 0; have f1 := hA5.frozen 1; have f2 := hA5.frozen 2; have f3 := hA5.frozen 3
      simp only [List.getElem?_toArray, List.getElem?_cons_zero, List.getElem?_cons_succ] at a0 a1 a2 a3
      have hbw5 := hbw.trans (hb5.mono hwz)
      have HA5 := Lib.hid hA5; have HB5 := Lib.hid hbw5
      clear hA5 hbw5 hb5 hbw hsl s0
      go_wp2_with fail
      go_roundw
      case rel =>
        refine ⟨3, by omega, rfl, ?_, HB5.out.setCell (p := ⟨w1.heap.size, 2, none⟩) (Nat.le_refl _) _⟩
        have h := HA5.out.set_ 2 (.int .i64 0)
        simpa using h
      case measure => simp [intOf]
    case inr.inr.inr.inl =>
      rw [if_neg (by decide)] at hA
      have bS3 := HS.out.below hbw (by omega)
      have s0 := bS3.cell 3
      simp only [List.getElem?_toArray, List.getElem?_cons_zero, List.getElem?_cons_succ] at s0
      have HAr := Lib.hid hA
      clear hA bS3
      have hsl : ∀ W : World, (Instr.slice 9 (.string ⟨#[100, 119, 109, 121]⟩) (some (.int .i64 3)) (some (.int .i64 4)) none).run Tryz.prog W = .ok (.string ⟨#[121]⟩) W := fun W => by kernel_rfl
      go_wp2_with fail
      refine (cut_any 48 121 _).mono ?_; rintro e w4 ⟨rfl, rfl⟩
      go_wp2_with fail
      refine (int0_any _).mono ?_; rintro e w5 ⟨rfl, hb5⟩
      have hwz := hbw.size
      have hA5 := HAr.out.below hb5 HAr.out.lt
      have a0 := hA5.cell 0; have a1 := hA5.cell 1; have a2 := hA5.cell 2; have a3 := hA5.cell 3
      have f0 := hA5.frozen 0; have f1 := hA5.frozen 1; have f2 := hA5.frozen 2; have f3 := hA5.frozen 3
      simp only [List.getElem?_toArray, List.getElem?_cons_zero, List.getElem?_cons_succ] at a0 a1 a2 a3
      have hbw5 := hbw.trans (hb5.mono hwz)
      have HA5 := Lib.hid hA5; have HB5 := Lib.hid hbw5
      clear hA5 hbw5 hb5 hbw hsl s0
      go_wp2_with fail
      go_roundw
      case rel =>
        refine ⟨4, by omega, rfl, ?_, HB5.out.setCell (p := ⟨w1.heap.size, 3, none⟩) (Nat.le_refl _) _⟩
        have h := HA5.out.set_ 3 (.int .i64 0)
        simpa using h
      case measure => simp [intOf]
    case inr.inr.inr.inr =>
      rw [if_neg (by decide)] at hA
      have a0 := hA.cell 0; have a1 := hA.cell 1; have a2 := hA.cell 2; have a3 := hA.cell 3
      simp only [List.getElem?_toArray, List.getElem?_cons_zero, List.getElem?_cons_succ] at a0 a1 a2 a3
      have HBW := Lib.hid hbw; have HA4 := Lib.hid hA
      clear hA hbw
      go_wp2_with fail
      refine (check_any 7 0 0 0 _).mono ?_; rintro e w4 ⟨rfl, hb4⟩
      have hch : polChk 7 0 0 0 = 0 := by decide +kernel
      rw [hch]
      have hwz := HBW.out.size
      have hbz : Below w1.heap.size w1 w4 := (HBW.out.alloc hwz _).trans (hb4.mono (by simp; omega))
      have bP4 := HP.out.below hbz (by omega)
      have bB4 := Blk.below (Blk.new wr 23 #[.int .i64 7, .int .i64 0, .int .i64 0, .int .i64 0]) hb4 (by simp)
      have p0 := bP4.cell 0; have p1 := bP4.cell 1; have p2 := bP4.cell 2; have p3 := bP4.cell 3
      have g0 := bP4.frozen 0; have g1 := bP4.frozen 1; have g2 := bP4.frozen 2; have g3 := bP4.frozen 3
      have q0 := bB4.cell 0; have q1 := bB4.cell 1; have q2 := bB4.cell 2; have q3 := bB4.cell 3
      simp only [List.getElem?_toArray, List.getElem?_cons_zero, List.getElem?_cons_succ] at p0 p1 p2 p3 q0 q1 q2 q3
      have HB4 := Lib.hid (HB.out.trans (hbz.mono (by omega))); have HP4 := Lib.hid bP4
      clear hbz hb4 bP4 bB4 hch a0 a1 a2 a3
      go_wp2_with fail
      change bodyPost _ _ _ _ _ (stores w4 (fill w.heap.size 0 [.int .i64 7, .int .i64 0, .int .i64 0, .int .i64 0]))
      have HZ : Blk (stores w4 (fill w.heap.size 0 [.int .i64 7, .int .i64 0, .int .i64 0, .int .i64 0])) w.heap.size 23 #[.int .i64 7, .int .i64 0, .int .i64 0, .int .i64 0] := by
        have h0 := stores_fill [.int .i64 7, .int .i64 0, .int .i64 0, .int .i64 0] _ 0 _ HP4.out
        simpa [setMany'] using h0
      refine bodyPost_ret (of49_results _ _ _ _ _ _ _ _ rfl rfl HZ) rfl ⟨rfl, HB4.out.trans (stores_below _ _ (fun p hp => by have := fill_block _ _ _ _ hp; omega))⟩

end Go.Proofs.YtgelaffifjicoaaGreatDoor
