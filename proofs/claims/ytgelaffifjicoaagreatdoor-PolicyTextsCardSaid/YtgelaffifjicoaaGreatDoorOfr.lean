/-
  WALKS: the document's Of.
-/
import Derived.Test.YtgelaffifjicoaaGreatDoorNum
import Derived.Test.YtgelaffifjicoaaGreatDoorTxts
namespace Go.Proofs.YtgelaffifjicoaaGreatDoor
open Go.RowKit Go.Lib
set_option linter.unusedSimpArgs false
set_option linter.unusedVariables false

def OfPost (s : ByteArray) (w : World) (e : Ending) (w' : World) : Prop := ∃ (q : Pol) (x : Int), e = .returned (.tuple #[q.v, .int .i64 x]) ∧ OfSays s q x ∧ Below w.heap.size w w'
theorem ofr_results (W : World) (q : Nat) (c0 c1 c2 c3 v9 : Value) (tmps : Array Value) (h2 : tmps.getD 2 undef = .pointer (some ⟨q, 0, none⟩)) (h3 : tmps.getD 3 undef = v9)
    (bF : Blk W q 23 #[c0, c1, c2, c3]) :
    (results Tryz.f6 tmps).run Tryz.prog W = .ok (.tuple #[.agg #[c0, c1, c2, c3], v9]) W := by
  have q0 := bF.cell 0; have q1 := bF.cell 1; have q2 := bF.cell 2; have q3 := bF.cell 3
  simp only [List.getElem?_toArray, List.getElem?_cons_zero, List.getElem?_cons_succ] at q0 q1 q2 q3
  simp only [Array.getD_eq_getD_getElem?] at h2 h3
  simp [results, Tryz.results6, go_sem, h2, h3, q0, q1, q2, q3]
  try rfl
/-- A block of four is written over. -/
theorem over4 {W : World} {b : Nat} {c0 c1 c2 c3 : Value} (h : Blk W b 23 #[c0, c1, c2, c3]) (v0 v1 v2 v3 : Value) : Blk (stores W (fill b 0 [v0, v1, v2, v3])) b 23 #[v0, v1, v2, v3] := by
  have h0 := stores_fill [v0, v1, v2, v3] _ 0 _ h
  simpa [setMany'] using h0
/-- Up to number k the text is gone through. -/
def OfAt (s : ByteArray) (k : Nat) (f : Nat → Int) (rest : ByteArray) : Prop := ∀ p : Pol, p.chk = 0 → s.data.toList = txtL p → (∀ j, j < k → f j = p.num j) ∧ rest.data.toList = tailL p k
theorem ofAt_fail {s : ByteArray} {k : Nat} {f : Nat → Int} {rest : ByteArray} (h : OfAt s k f rest) (hk : k < 4) {n : Int} {left : List UInt8} (hn : NumSays rest.data.toList (sgn k) n left false) : OfSays s ⟨0, 0, 0, 0⟩ 3 :=
  .inr ⟨rfl, rfl, fun p hp hs => by
    obtain ⟨_, h2⟩ := h p hp hs
    have hc := sgn_no k
    by_cases h3 : k < 3
    · rw [tailL_step p k h3] at h2
      have := (numSays_at hn hc (chk_num hp k) h2).1
      cases this
    · obtain rfl : k = 3 := by omega
      rw [tailL_last] at h2
      have := (numSays_at hn hc (chk_num hp 3) h2).1
      cases this⟩
theorem ofAt_step {s : ByteArray} {k : Nat} {f : Nat → Int} {rest left : ByteArray} (h : OfAt s k f rest) (hk : k < 3) {n : Int} (hn : NumSays rest.data.toList (sgn k) n left.data.toList true) :
    ∀ p : Pol, p.chk = 0 → s.data.toList = txtL p → (∀ j, j < k + 1 → (if j = k then n else f j) = p.num j) ∧ left.data.toList = 32 :: tailL p (k + 1) := fun p hp hs => by
  obtain ⟨h1, h2⟩ := h p hp hs
  rw [tailL_step p k hk] at h2
  obtain ⟨_, a, b⟩ := numSays_at hn (sgn_no k) (chk_num hp k) h2
  refine ⟨fun j hj => ?_, b⟩
  by_cases e : j = k
  · rw [if_pos e, e]; exact a
  · rw [if_neg e]; exact h1 j (by omega)
theorem ofAt_no {s : ByteArray} {k : Nat} {f : Nat → Int} {left : ByteArray} {n : Int} (h : ∀ p : Pol, p.chk = 0 → s.data.toList = txtL p → (∀ j, j < k + 1 → (if j = k then n else f j) = p.num j) ∧ left.data.toList = 32 :: tailL p (k + 1)) (hl : left.size = 0 ∨ ∃ hz : 0 < left.size, left[0] ≠ 32) : OfSays s ⟨0, 0, 0, 0⟩ 3 :=
  .inr ⟨rfl, rfl, fun p hp hs => by
    obtain ⟨_, h2⟩ := h p hp hs
    rcases hl with hl | ⟨hz, hl⟩
    · have l1 : left.data.toList.length = 0 := by rw [Array.length_toList]; exact hl
      rw [h2] at l1
      simp at l1
    · refine hl ?_
      have : left.data.toList[0]? = some 32 := by rw [h2]; rfl
      rw [List.getElem?_eq_getElem (by simpa using hz)] at this
      exact Option.some.inj this⟩
theorem ofAt_go {s : ByteArray} {k : Nat} {f : Nat → Int} {left : ByteArray} {n : Int} (h : ∀ p : Pol, p.chk = 0 → s.data.toList = txtL p → (∀ j, j < k + 1 → (if j = k then n else f j) = p.num j) ∧ left.data.toList = 32 :: tailL p (k + 1)) : OfAt s (k + 1) (fun j => if j = k then n else f j) (left.extract 1 left.size) := fun p hp hs => by
  obtain ⟨h1, h2⟩ := h p hp hs
  exact ⟨h1, by rw [Lib.extract_to_end, h2]; rfl⟩
theorem toList_data (b : ByteArray) : b.toList = b.data.toList := ByteArray.toList_eq b
theorem toList_nil {b : ByteArray} (h : b.size = 0) : b.toList = [] := by
  rw [toList_data]
  exact List.eq_nil_of_length_eq_zero (by rw [Array.length_toList]; exact h)
theorem toList_some {b : ByteArray} (h : 0 < b.size) : b.toList.isEmpty = false := by
  have e := toList_data b
  rw [e, List.isEmpty_eq_false_iff]
  intro hn
  have l1 : b.data.toList.length = 0 := by rw [hn]; rfl
  rw [Array.length_toList] at l1
  have : b.data.size = b.size := rfl
  omega
theorem ofAt_last {s : ByteArray} {f : Nat → Int} {rest left : ByteArray} (h : OfAt s 3 f rest) {n : Int} (hn : NumSays rest.data.toList (sgn 3) n left.data.toList true) : OfAt s 4 (fun j => if j = 3 then n else f j) left := fun p hp hs => by
  obtain ⟨h1, h2⟩ := h p hp hs
  rw [tailL_last] at h2
  obtain ⟨_, a, b⟩ := numSays_at hn (sgn_no 3) (chk_num hp 3) h2
  refine ⟨fun j hj => ?_, b⟩
  show (if j = 3 then n else f j) = _
  by_cases e : j = 3
  · rw [if_pos e, e]; exact a
  · rw [if_neg e]; exact h1 j (by omega)

set_option maxRecDepth 100000 in
set_option maxHeartbeats 4000000 in
theorem ofR_any (s : ByteArray) (hs : s.size ≤ 300) (w : World) :
    Calls Tryz.prog 6 #[.string s] w (OfPost s w) := by
  have b0 : ∀ w, (Instr.build 23 #[]).run Tryz.prog w = .ok (.agg #[.int .i64 0, .int .i64 0, .int .i64 0, .int .i64 0]) w := fun w => run_build w 23 _ _ (by kernel_rfl)
  have b1 : ∀ (w : World) (a b c d : Int), (Instr.build 23 #[(0, .int .i64 a), (1, .int .i64 b), (2, .int .i64 c), (3, .int .i64 d)]).run Tryz.prog w = .ok (.agg #[.int .i64 a, .int .i64 b, .int .i64 c, .int .i64 d]) w := fun w a b c d => run_build w 23 _ _ (by kernel_rfl)
  go_enter Tryz.func6, Tryz.ntmps6
  have bP := (Blk.new w 23 #[.int .i64 0, .int .i64 0, .int .i64 0, .int .i64 0]).alloc (.cells #[.int .i64 0, .int .i64 0, .int .i64 0, .int .i64 0] 38)
  have bN := Blk.new (w.alloc (.cells #[.int .i64 0, .int .i64 0, .int .i64 0, .int .i64 0] 23)) 38 #[.int .i64 0, .int .i64 0, .int .i64 0, .int .i64 0]
  rw [World.size_alloc] at bN
  have hb : Below w.heap.size w ((w.alloc (.cells #[.int .i64 0, .int .i64 0, .int .i64 0, .int .i64 0] 23)).alloc (.cells #[.int .i64 0, .int .i64 0, .int .i64 0, .int .i64 0] 38)) := by (repeat' (first | with_reducible exact Below.refl _ _ | assumption | (with_reducible refine Below.drew ?_) | (with_reducible refine below_drewN ?_ _) | (with_reducible refine Below.alloc ?_ (by first | exact Nat.le_refl _ | (simp; done) | (simp; omega)) _) | (with_reducible refine Below.setCell ?_ (by first | exact Nat.le_refl _ | (simp; done) | (simp; omega)) _)))
  go_wp2_with fail
  have h0 : OfAt s 0 (fun _ => 0) s := fun p _ hs => ⟨fun j hj => absurd hj (Nat.not_lt_zero _), hs⟩
  go_loopw [5, 6] (fun r i wr => ∃ (k : Nat) (f : Nat → Int) (rest : ByteArray), i = .int .i64 k ∧ k ≤ 4 ∧ r = .string rest ∧ rest.size ≤ 300 ∧ OfAt s k f rest ∧ Blk wr w.heap.size 23 #[.int .i64 0, .int .i64 0, .int .i64 0, .int .i64 0] ∧ Blk wr (w.heap.size + 1) 38 #[.int .i64 (f 0), .int .i64 (f 1), .int .i64 (f 2), .int .i64 (f 3)] ∧ Below w.heap.size w wr)
    (fun _ i _ => 4 - (intOf i).toNat)
  case atStart => exact ⟨0, fun _ => 0, s, rfl, by omega, rfl, hs, h0, bP, bN, hb⟩
  case round =>
    clear h0 bP bN hb
    obtain ⟨k, f, rest, rfl, hk, rfl, hrs, hat, hP, hN, hb⟩ := hrel
    have HAT := Lib.hid hat; have HP := Lib.hid hP; have HN := Lib.hid hN; have HB := Lib.hid hb
    have hpl := hP.lt
    have hnl := hN.lt
    clear hat hP hN hb
    rcases (show k = 0 ∨ k = 1 ∨ k = 2 ∨ k = 3 ∨ k = 4 from by omega) with rfl | rfl | rfl | rfl | rfl
    case inl =>
      have hix : ∀ W : World, (Instr.index 9 (.string ⟨#[100, 119, 109, 121]⟩) (.int .i64 0)).run Tryz.prog W = .ok (.int .u8 100) W := fun W => by kernel_rfl
      have hnum := number_any rest hrs 100 (by decide) wr
      rw [show ((100 : UInt8).toNat : Int) = 100 from rfl] at hnum
      have HNUM := Lib.hid hnum
      clear hnum
      go_wp2_with fail
      refine HNUM.out.mono ?_; rintro e w3 ⟨n, left, ok, rfl, hns, hnok, hls, hb3⟩
      have HP3 := Lib.hid (HP.out.below hb3 hpl); have HN3 := Lib.hid (HN.out.below hb3 hnl); have HB3 := Lib.hid (HB.out.trans (hb3.mono HB.out.size))
      have HNS := Lib.hid hns
      have hpl3 := HP3.out.lt; have hnl3 := HN3.out.lt
      clear hns hb3 hix
      cases ok with
      | false =>
        have HOF := Lib.hid (ofAt_fail HAT.out (by decide) HNS.out)
        have p0 := HP3.out.cell 0; have p1 := HP3.out.cell 1; have p2 := HP3.out.cell 2; have p3 := HP3.out.cell 3
        have g0 := HP3.out.frozen 0; have g1 := HP3.out.frozen 1; have g2 := HP3.out.frozen 2; have g3 := HP3.out.frozen 3
        simp only [List.getElem?_toArray, List.getElem?_cons_zero, List.getElem?_cons_succ] at p0 p1 p2 p3
        go_wp2_with fail
        change bodyPost _ _ _ _ _ (stores w3 (fill w.heap.size 0 [.int .i64 0, .int .i64 0, .int .i64 0, .int .i64 0]))
        exact bodyPost_ret (ofr_results _ _ _ _ _ _ _ _ rfl rfl (over4 HP3.out _ _ _ _)) rfl ⟨⟨0, 0, 0, 0⟩, 3, rfl, HOF.out, HB3.out.trans (stores_below _ _ (fun p hp => by have := fill_block _ _ _ _ hp; have := HB3.out.size; omega))⟩
      | true =>
        have hst := ofAt_step HAT.out (by decide) HNS.out
        have HST := Lib.hid hst
        have hn3 : w3.cell? ⟨w.heap.size + 1, 0, none⟩ = some (.int .i64 (f 0)) := HN3.out.cell 0
        have hg3 := HN3.out.frozen 0
        have hNN := HN3.out.set_ 0 (.int .i64 n)
        have HNN := Lib.hid hNN
        clear hst hNN
        by_cases hl0 : left.size = 0
        · have HOF := Lib.hid (ofAt_no HST.out (.inl hl0))
          have hl1 := toList_nil hl0
          clear hl0
          have p0 := HP3.out.cell 0; have p1 := HP3.out.cell 1; have p2 := HP3.out.cell 2; have p3 := HP3.out.cell 3
          have g0 := HP3.out.frozen 0; have g1 := HP3.out.frozen 1; have g2 := HP3.out.frozen 2; have g3 := HP3.out.frozen 3
          simp only [List.getElem?_toArray, List.getElem?_cons_zero, List.getElem?_cons_succ] at p0 p1 p2 p3
          go_wp2_with fail
          change bodyPost _ _ _ _ _ (stores (w3.setCell ⟨w.heap.size + 1, 0, none⟩ (.int .i64 n)) (fill w.heap.size 0 [.int .i64 0, .int .i64 0, .int .i64 0, .int .i64 0]))
          exact bodyPost_ret (ofr_results _ _ _ _ _ _ _ _ rfl rfl (over4 (HP3.out.far (p := ⟨w.heap.size + 1, 0, none⟩) (show w.heap.size ≠ w.heap.size + 1 by omega) _) _ _ _ _)) rfl ⟨⟨0, 0, 0, 0⟩, 3, rfl, HOF.out, (HB3.out.setCell (p := ⟨w.heap.size + 1, 0, none⟩) (Nat.le_succ _) _).trans (stores_below _ _ (fun p hp => by have := fill_block _ _ _ _ hp; omega))⟩
        · have hl1 : 0 < left.size := by omega
          have hl2 := toList_some hl1
          have hl3 : ¬ left.toList = [] := by intro h; rw [h] at hl2; cases hl2
          have hl4 : (0 : Int) < (left.size : Int) := by omega
          have hl5 : (1 : Int) ≤ (left.size : Int) := by omega
          by_cases h32 : left[0] = 32
          · have hq : ((left[0].toNat : Int) != 32) = false := by rw [h32]; rfl
            clear h32
            go_wp2_with fail
            go_roundw
            case rel =>
              refine ⟨1, fun j => if j = 0 then n else f j, _, by go_num, by omega, rfl, by simp; omega, ofAt_go HST.out, HP3.out.far (p := ⟨w.heap.size + 1, 0, none⟩) (show w.heap.size ≠ w.heap.size + 1 by omega) _, ?_, HB3.out.setCell (p := ⟨w.heap.size + 1, 0, none⟩) (Nat.le_succ _) _⟩
              have h := HNN.out
              simpa using h
            case measure => simp [intOf]
          · have hq : ((left[0].toNat : Int) != 32) = true := by
              rw [bne_iff_ne]; intro h; exact h32 (UInt8.toNat_inj.1 (by show left[0].toNat = 32; omega))
            have HOF := Lib.hid (ofAt_no HST.out (.inr ⟨hl1, h32⟩))
            clear h32
            have p0 := HP3.out.cell 0; have p1 := HP3.out.cell 1; have p2 := HP3.out.cell 2; have p3 := HP3.out.cell 3
            have g0 := HP3.out.frozen 0; have g1 := HP3.out.frozen 1; have g2 := HP3.out.frozen 2; have g3 := HP3.out.frozen 3
            simp only [List.getElem?_toArray, List.getElem?_cons_zero, List.getElem?_cons_succ] at p0 p1 p2 p3
            go_wp2_with fail
            change bodyPost _ _ _ _ _ (stores (w3.setCell ⟨w.heap.size + 1, 0, none⟩ (.int .i64 n)) (fill w.heap.size 0 [.int .i64 0, .int .i64 0, .int .i64 0, .int .i64 0]))
            exact bodyPost_ret (ofr_results _ _ _ _ _ _ _ _ rfl rfl (over4 (HP3.out.far (p := ⟨w.heap.size + 1, 0, none⟩) (show w.heap.size ≠ w.heap.size + 1 by omega) _) _ _ _ _)) rfl ⟨⟨0, 0, 0, 0⟩, 3, rfl, HOF.out, (HB3.out.setCell (p := ⟨w.heap.size + 1, 0, none⟩) (Nat.le_succ _) _).trans (stores_below _ _ (fun p hp => by have := fill_block _ _ _ _ hp; omega))⟩
    case inr.inl =>
      have hix : ∀ W : World, (Instr.index 9 (.string ⟨#[100, 119, 109, 121]⟩) (.int .i64 1)).run Tryz.prog W = .ok (.int .u8 119) W := fun W => by kernel_rfl
      have hnum := number_any rest hrs 119 (by decide) wr
      rw [show ((119 : UInt8).toNat : Int) = 119 from rfl] at hnum
      have HNUM := Lib.hid hnum
      clear hnum
      go_wp2_with fail
      refine HNUM.out.mono ?_; rintro e w3 ⟨n, left, ok, rfl, hns, hnok, hls, hb3⟩
      have HP3 := Lib.hid (HP.out.below hb3 hpl); have HN3 := Lib.hid (HN.out.below hb3 hnl); have HB3 := Lib.hid (HB.out.trans (hb3.mono HB.out.size))
      have HNS := Lib.hid hns
      have hpl3 := HP3.out.lt; have hnl3 := HN3.out.lt
      clear hns hb3 hix
      cases ok with
      | false =>
        have HOF := Lib.hid (ofAt_fail HAT.out (by decide) HNS.out)
        have p0 := HP3.out.cell 0; have p1 := HP3.out.cell 1; have p2 := HP3.out.cell 2; have p3 := HP3.out.cell 3
        have g0 := HP3.out.frozen 0; have g1 := HP3.out.frozen 1; have g2 := HP3.out.frozen 2; have g3 := HP3.out.frozen 3
        simp only [List.getElem?_toArray, List.getElem?_cons_zero, List.getElem?_cons_succ] at p0 p1 p2 p3
        go_wp2_with fail
        change bodyPost _ _ _ _ _ (stores w3 (fill w.heap.size 0 [.int .i64 0, .int .i64 0, .int .i64 0, .int .i64 0]))
        exact bodyPost_ret (ofr_results _ _ _ _ _ _ _ _ rfl rfl (over4 HP3.out _ _ _ _)) rfl ⟨⟨0, 0, 0, 0⟩, 3, rfl, HOF.out, HB3.out.trans (stores_below _ _ (fun p hp => by have := fill_block _ _ _ _ hp; have := HB3.out.size; omega))⟩
      | true =>
        have hst := ofAt_step HAT.out (by decide) HNS.out
        have HST := Lib.hid hst
        have hn3 : w3.cell? ⟨w.heap.size + 1, 1, none⟩ = some (.int .i64 (f 1)) := HN3.out.cell 1
        have hg3 := HN3.out.frozen 1
        have hNN := HN3.out.set_ 1 (.int .i64 n)
        have HNN := Lib.hid hNN
        clear hst hNN
        by_cases hl0 : left.size = 0
        · have HOF := Lib.hid (ofAt_no HST.out (.inl hl0))
          have hl1 := toList_nil hl0
          clear hl0
          have p0 := HP3.out.cell 0; have p1 := HP3.out.cell 1; have p2 := HP3.out.cell 2; have p3 := HP3.out.cell 3
          have g0 := HP3.out.frozen 0; have g1 := HP3.out.frozen 1; have g2 := HP3.out.frozen 2; have g3 := HP3.out.frozen 3
          simp only [List.getElem?_toArray, List.getElem?_cons_zero, List.getElem?_cons_succ] at p0 p1 p2 p3
          go_wp2_with fail
          change bodyPost _ _ _ _ _ (stores (w3.setCell ⟨w.heap.size + 1, 1, none⟩ (.int .i64 n)) (fill w.heap.size 0 [.int .i64 0, .int .i64 0, .int .i64 0, .int .i64 0]))
          exact bodyPost_ret (ofr_results _ _ _ _ _ _ _ _ rfl rfl (over4 (HP3.out.far (p := ⟨w.heap.size + 1, 1, none⟩) (show w.heap.size ≠ w.heap.size + 1 by omega) _) _ _ _ _)) rfl ⟨⟨0, 0, 0, 0⟩, 3, rfl, HOF.out, (HB3.out.setCell (p := ⟨w.heap.size + 1, 1, none⟩) (Nat.le_succ _) _).trans (stores_below _ _ (fun p hp => by have := fill_block _ _ _ _ hp; omega))⟩
        · have hl1 : 0 < left.size := by omega
          have hl2 := toList_some hl1
          have hl3 : ¬ left.toList = [] := by intro h; rw [h] at hl2; cases hl2
          have hl4 : (0 : Int) < (left.size : Int) := by omega
          have hl5 : (1 : Int) ≤ (left.size : Int) := by omega
          by_cases h32 : left[0] = 32
          · have hq : ((left[0].toNat : Int) != 32) = false := by rw [h32]; rfl
            clear h32
            go_wp2_with fail
            go_roundw
            case rel =>
              refine ⟨2, fun j => if j = 1 then n else f j, _, by go_num, by omega, rfl, by simp; omega, ofAt_go HST.out, HP3.out.far (p := ⟨w.heap.size + 1, 1, none⟩) (show w.heap.size ≠ w.heap.size + 1 by omega) _, ?_, HB3.out.setCell (p := ⟨w.heap.size + 1, 1, none⟩) (Nat.le_succ _) _⟩
              have h := HNN.out
              simpa using h
            case measure => simp [intOf]
          · have hq : ((left[0].toNat : Int) != 32) = true := by
              rw [bne_iff_ne]; intro h; exact h32 (UInt8.toNat_inj.1 (by show left[0].toNat = 32; omega))
            have HOF := Lib.hid (ofAt_no HST.out (.inr ⟨hl1, h32⟩))
            clear h32
            have p0 := HP3.out.cell 0; have p1 := HP3.out.cell 1; have p2 := HP3.out.cell 2; have p3 := HP3.out.cell 3
            have g0 := HP3.out.frozen 0; have g1 := HP3.out.frozen 1; have g2 := HP3.out.frozen 2; have g3 := HP3.out.frozen 3
            simp only [List.getElem?_toArray, List.getElem?_cons_zero, List.getElem?_cons_succ] at p0 p1 p2 p3
            go_wp2_with fail
            change bodyPost _ _ _ _ _ (stores (w3.setCell ⟨w.heap.size + 1, 1, none⟩ (.int .i64 n)) (fill w.heap.size 0 [.int .i64 0, .int .i64 0, .int .i64 0, .int .i64 0]))
            exact bodyPost_ret (ofr_results _ _ _ _ _ _ _ _ rfl rfl (over4 (HP3.out.far (p := ⟨w.heap.size + 1, 1, none⟩) (show w.heap.size ≠ w.heap.size + 1 by omega) _) _ _ _ _)) rfl ⟨⟨0, 0, 0, 0⟩, 3, rfl, HOF.out, (HB3.out.setCell (p := ⟨w.heap.size + 1, 1, none⟩) (Nat.le_succ _) _).trans (stores_below _ _ (fun p hp => by have := fill_block _ _ _ _ hp; omega))⟩
    case inr.inr.inl =>
      have hix : ∀ W : World, (Instr.index 9 (.string ⟨#[100, 119, 109, 121]⟩) (.int .i64 2)).run Tryz.prog W = .ok (.int .u8 109) W := fun W => by kernel_rfl
      have hnum := number_any rest hrs 109 (by decide) wr
      rw [show ((109 : UInt8).toNat : Int) = 109 from rfl] at hnum
      have HNUM := Lib.hid hnum
      clear hnum
      go_wp2_with fail
      refine HNUM.out.mono ?_; rintro e w3 ⟨n, left, ok, rfl, hns, hnok, hls, hb3⟩
      have HP3 := Lib.hid (HP.out.below hb3 hpl); have HN3 := Lib.hid (HN.out.below hb3 hnl); have HB3 := Lib.hid (HB.out.trans (hb3.mono HB.out.size))
      have HNS := Lib.hid hns
      have hpl3 := HP3.out.lt; have hnl3 := HN3.out.lt
      clear hns hb3 hix
      cases ok with
      | false =>
        have HOF := Lib.hid (ofAt_fail HAT.out (by decide) HNS.out)
        have p0 := HP3.out.cell 0; have p1 := HP3.out.cell 1; have p2 := HP3.out.cell 2; have p3 := HP3.out.cell 3
        have g0 := HP3.out.frozen 0; have g1 := HP3.out.frozen 1; have g2 := HP3.out.frozen 2; have g3 := HP3.out.frozen 3
        simp only [List.getElem?_toArray, List.getElem?_cons_zero, List.getElem?_cons_succ] at p0 p1 p2 p3
        go_wp2_with fail
        change bodyPost _ _ _ _ _ (stores w3 (fill w.heap.size 0 [.int .i64 0, .int .i64 0, .int .i64 0, .int .i64 0]))
        exact bodyPost_ret (ofr_results _ _ _ _ _ _ _ _ rfl rfl (over4 HP3.out _ _ _ _)) rfl ⟨⟨0, 0, 0, 0⟩, 3, rfl, HOF.out, HB3.out.trans (stores_below _ _ (fun p hp => by have := fill_block _ _ _ _ hp; have := HB3.out.size; omega))⟩
      | true =>
        have hst := ofAt_step HAT.out (by decide) HNS.out
        have HST := Lib.hid hst
        have hn3 : w3.cell? ⟨w.heap.size + 1, 2, none⟩ = some (.int .i64 (f 2)) := HN3.out.cell 2
        have hg3 := HN3.out.frozen 2
        have hNN := HN3.out.set_ 2 (.int .i64 n)
        have HNN := Lib.hid hNN
        clear hst hNN
        by_cases hl0 : left.size = 0
        · have HOF := Lib.hid (ofAt_no HST.out (.inl hl0))
          have hl1 := toList_nil hl0
          clear hl0
          have p0 := HP3.out.cell 0; have p1 := HP3.out.cell 1; have p2 := HP3.out.cell 2; have p3 := HP3.out.cell 3
          have g0 := HP3.out.frozen 0; have g1 := HP3.out.frozen 1; have g2 := HP3.out.frozen 2; have g3 := HP3.out.frozen 3
          simp only [List.getElem?_toArray, List.getElem?_cons_zero, List.getElem?_cons_succ] at p0 p1 p2 p3
          go_wp2_with fail
          change bodyPost _ _ _ _ _ (stores (w3.setCell ⟨w.heap.size + 1, 2, none⟩ (.int .i64 n)) (fill w.heap.size 0 [.int .i64 0, .int .i64 0, .int .i64 0, .int .i64 0]))
          exact bodyPost_ret (ofr_results _ _ _ _ _ _ _ _ rfl rfl (over4 (HP3.out.far (p := ⟨w.heap.size + 1, 2, none⟩) (show w.heap.size ≠ w.heap.size + 1 by omega) _) _ _ _ _)) rfl ⟨⟨0, 0, 0, 0⟩, 3, rfl, HOF.out, (HB3.out.setCell (p := ⟨w.heap.size + 1, 2, none⟩) (Nat.le_succ _) _).trans (stores_below _ _ (fun p hp => by have := fill_block _ _ _ _ hp; omega))⟩
        · have hl1 : 0 < left.size := by omega
          have hl2 := toList_some hl1
          have hl3 : ¬ left.toList = [] := by intro h; rw [h] at hl2; cases hl2
          have hl4 : (0 : Int) < (left.size : Int) := by omega
          have hl5 : (1 : Int) ≤ (left.size : Int) := by omega
          by_cases h32 : left[0] = 32
          · have hq : ((left[0].toNat : Int) != 32) = false := by rw [h32]; rfl
            clear h32
            go_wp2_with fail
            go_roundw
            case rel =>
              refine ⟨3, fun j => if j = 2 then n else f j, _, by go_num, by omega, rfl, by simp; omega, ofAt_go HST.out, HP3.out.far (p := ⟨w.heap.size + 1, 2, none⟩) (show w.heap.size ≠ w.heap.size + 1 by omega) _, ?_, HB3.out.setCell (p := ⟨w.heap.size + 1, 2, none⟩) (Nat.le_succ _) _⟩
              have h := HNN.out
              simpa using h
            case measure => simp [intOf]
          · have hq : ((left[0].toNat : Int) != 32) = true := by
              rw [bne_iff_ne]; intro h; exact h32 (UInt8.toNat_inj.1 (by show left[0].toNat = 32; omega))
            have HOF := Lib.hid (ofAt_no HST.out (.inr ⟨hl1, h32⟩))
            clear h32
            have p0 := HP3.out.cell 0; have p1 := HP3.out.cell 1; have p2 := HP3.out.cell 2; have p3 := HP3.out.cell 3
            have g0 := HP3.out.frozen 0; have g1 := HP3.out.frozen 1; have g2 := HP3.out.frozen 2; have g3 := HP3.out.frozen 3
            simp only [List.getElem?_toArray, List.getElem?_cons_zero, List.getElem?_cons_succ] at p0 p1 p2 p3
            go_wp2_with fail
            change bodyPost _ _ _ _ _ (stores (w3.setCell ⟨w.heap.size + 1, 2, none⟩ (.int .i64 n)) (fill w.heap.size 0 [.int .i64 0, .int .i64 0, .int .i64 0, .int .i64 0]))
            exact bodyPost_ret (ofr_results _ _ _ _ _ _ _ _ rfl rfl (over4 (HP3.out.far (p := ⟨w.heap.size + 1, 2, none⟩) (show w.heap.size ≠ w.heap.size + 1 by omega) _) _ _ _ _)) rfl ⟨⟨0, 0, 0, 0⟩, 3, rfl, HOF.out, (HB3.out.setCell (p := ⟨w.heap.size + 1, 2, none⟩) (Nat.le_succ _) _).trans (stores_below _ _ (fun p hp => by have := fill_block _ _ _ _ hp; omega))⟩
    case inr.inr.inr.inl =>
      have hix : ∀ W : World, (Instr.index 9 (.string ⟨#[100, 119, 109, 121]⟩) (.int .i64 3)).run Tryz.prog W = .ok (.int .u8 121) W := fun W => by kernel_rfl
      have hnum := number_any rest hrs 121 (by decide) wr
      rw [show ((121 : UInt8).toNat : Int) = 121 from rfl] at hnum
      have HNUM := Lib.hid hnum
      clear hnum
      go_wp2_with fail
      refine HNUM.out.mono ?_; rintro e w3 ⟨n, left, ok, rfl, hns, hnok, hls, hb3⟩
      have HP3 := Lib.hid (HP.out.below hb3 hpl); have HN3 := Lib.hid (HN.out.below hb3 hnl); have HB3 := Lib.hid (HB.out.trans (hb3.mono HB.out.size))
      have HNS := Lib.hid hns
      have hpl3 := HP3.out.lt; have hnl3 := HN3.out.lt
      clear hns hb3 hix
      cases ok with
      | false =>
        have HOF := Lib.hid (ofAt_fail HAT.out (by decide) HNS.out)
        have p0 := HP3.out.cell 0; have p1 := HP3.out.cell 1; have p2 := HP3.out.cell 2; have p3 := HP3.out.cell 3
        have g0 := HP3.out.frozen 0; have g1 := HP3.out.frozen 1; have g2 := HP3.out.frozen 2; have g3 := HP3.out.frozen 3
        simp only [List.getElem?_toArray, List.getElem?_cons_zero, List.getElem?_cons_succ] at p0 p1 p2 p3
        go_wp2_with fail
        change bodyPost _ _ _ _ _ (stores w3 (fill w.heap.size 0 [.int .i64 0, .int .i64 0, .int .i64 0, .int .i64 0]))
        exact bodyPost_ret (ofr_results _ _ _ _ _ _ _ _ rfl rfl (over4 HP3.out _ _ _ _)) rfl ⟨⟨0, 0, 0, 0⟩, 3, rfl, HOF.out, HB3.out.trans (stores_below _ _ (fun p hp => by have := fill_block _ _ _ _ hp; have := HB3.out.size; omega))⟩
      | true =>
        have hst := ofAt_last HAT.out HNS.out
        have HST := Lib.hid hst
        have hn3 : w3.cell? ⟨w.heap.size + 1, 3, none⟩ = some (.int .i64 (f 3)) := HN3.out.cell 3
        have hg3 := HN3.out.frozen 3
        have hNN := HN3.out.set_ 3 (.int .i64 n)
        have HNN := Lib.hid hNN
        clear hst hNN
        go_wp2_with fail
        go_roundw
        case rel =>
          refine ⟨4, fun j => if j = 3 then n else f j, _, by go_num, by omega, rfl, by omega, HST.out, HP3.out.far (p := ⟨w.heap.size + 1, 3, none⟩) (show w.heap.size ≠ w.heap.size + 1 by omega) _, ?_, HB3.out.setCell (p := ⟨w.heap.size + 1, 3, none⟩) (Nat.le_succ _) _⟩
          have h := HNN.out
          simpa using h
        case measure => simp [intOf]
    case inr.inr.inr.inr =>
      have a0 := HN.out.cell 0; have a1 := HN.out.cell 1; have a2 := HN.out.cell 2; have a3 := HN.out.cell 3
      simp only [List.getElem?_toArray, List.getElem?_cons_zero, List.getElem?_cons_succ] at a0 a1 a2 a3
      obtain ⟨q, hq⟩ : ∃ q : Pol, q = ⟨f 0, f 1, f 2, f 3⟩ := ⟨_, rfl⟩
      have hall : ∀ p : Pol, p.chk = 0 → s.data.toList = txtL p → q = p := fun p hp hs => by
        obtain ⟨h1, _⟩ := HAT.out p hp hs
        have e0 := h1 0 (by omega); have e1 := h1 1 (by omega); have e2 := h1 2 (by omega); have e3 := h1 3 (by omega)
        rw [hq, e0, e1, e2, e3]; rfl
      have HALL := Lib.hid hall
      have hq0 : f 0 = q.d := by rw [hq]
      have hq1 : f 1 = q.k := by rw [hq]
      have hq2 : f 2 = q.m := by rw [hq]
      have hq3 : f 3 = q.y := by rw [hq]
      rw [hq0] at a0; rw [hq1] at a1; rw [hq2] at a2; rw [hq3] at a3
      have bQ := Blk.new wr 23 #[.int .i64 q.d, .int .i64 q.k, .int .i64 q.m, .int .i64 q.y]
      have hBQ := HB.out.alloc HB.out.size (.cells #[.int .i64 q.d, .int .i64 q.k, .int .i64 q.m, .int .i64 q.y] 23)
      have hPQ := HP.out.alloc (.cells #[.int .i64 q.d, .int .i64 q.k, .int .i64 q.m, .int .i64 q.y] 23)
      have BQ := Lib.hid bQ; have HBQ := Lib.hid hBQ; have HPQ := Lib.hid hPQ
      have hzq : wr.heap.size < (wr.alloc (.cells #[.int .i64 q.d, .int .i64 q.k, .int .i64 q.m, .int .i64 q.y] 23)).heap.size := by simp
      clear hall hq hq0 hq1 hq2 hq3 bQ hBQ hPQ
      go_wp2_with fail
      refine (refText_any q _).mono ?_; rintro e w4 ⟨rfl, hb4⟩
      have HP4 := Lib.hid (HPQ.out.below hb4 (by omega)); have BQ4 := Lib.hid (BQ.out.below hb4 hzq); have HB4 := Lib.hid (HBQ.out.trans (hb4.mono HBQ.out.size))
      have p0 := HP4.out.cell 0; have p1 := HP4.out.cell 1; have p2 := HP4.out.cell 2; have p3 := HP4.out.cell 3
      have g0 := HP4.out.frozen 0; have g1 := HP4.out.frozen 1; have g2 := HP4.out.frozen 2; have g3 := HP4.out.frozen 3
      have c0 := BQ4.out.cell 0; have c1 := BQ4.out.cell 1; have c2 := BQ4.out.cell 2; have c3 := BQ4.out.cell 3
      simp only [List.getElem?_toArray, List.getElem?_cons_zero, List.getElem?_cons_succ] at p0 p1 p2 p3 c0 c1 c2 c3
      clear hb4 a0 a1 a2 a3
      have hbad : (textOf q ≠ s ∨ s.size = 0) → OfSays s ⟨0, 0, 0, 0⟩ 3 := fun hc => .inr ⟨rfl, rfl, fun p hp hs => by
        have e := HALL.out p hp hs
        subst e
        rcases hc with hc | hc
        · exact hc (by rw [textOf_ok hp]; exact ba_ext hs.symm)
        · have l1 : s.data.toList.length = 0 := by rw [Array.length_toList]; exact hc
          rw [hs] at l1
          exact txtL_ne (List.eq_nil_of_length_eq_zero l1)⟩
      have HBAD := Lib.hid hbad
      clear hbad
      by_cases he : textOf q = s
      · by_cases hz : s.size = 0
        · have HOF := Lib.hid (HBAD.out (.inr hz))
          have hl1 := toList_nil hz
          clear hz
          rw [he]
          clear he
          go_wp2_with fail
          change bodyPost _ _ _ _ _ (stores w4 (fill w.heap.size 0 [.int .i64 0, .int .i64 0, .int .i64 0, .int .i64 0]))
          exact bodyPost_ret (ofr_results _ _ _ _ _ _ _ _ rfl rfl (over4 HP4.out _ _ _ _)) rfl ⟨⟨0, 0, 0, 0⟩, 3, rfl, HOF.out, HB4.out.trans (stores_below _ _ (fun p hp => by have := fill_block _ _ _ _ hp; have := HB4.out.size; omega))⟩
        · have hl1 : 0 < s.size := by omega
          have hl2 := toList_some hl1
          have hl3 : ¬ s.toList = [] := by intro h; rw [h] at hl2; cases hl2
          have hch : q.chk = 0 := by
            rcases Classical.em (q.chk = 0) with h | h
            · exact h
            · rw [textOf_no h] at he; rw [← he] at hl1; exact absurd hl1 (by decide)
          have HOF := Lib.hid (show OfSays s q 0 from .inl ⟨rfl, hch, by rw [← he, textOf_ok hch]; simp [txt]⟩)
          rw [he]
          clear he hch hz
          go_wp2_with fail
          change bodyPost _ _ _ _ _ (stores w4 (fill w.heap.size 0 [.int .i64 q.d, .int .i64 q.k, .int .i64 q.m, .int .i64 q.y]))
          exact bodyPost_ret (ofr_results _ _ _ _ _ _ _ _ rfl rfl (over4 HP4.out _ _ _ _)) rfl ⟨⟨q.d, q.k, q.m, q.y⟩, 0, rfl, HOF.out, HB4.out.trans (stores_below _ _ (fun p hp => by have := fill_block _ _ _ _ hp; have := HB4.out.size; omega))⟩
      · have e1 := toList_ne he
        have HOF := Lib.hid (HBAD.out (.inl he))
        clear he
        go_wp2_with fail
        change bodyPost _ _ _ _ _ (stores w4 (fill w.heap.size 0 [.int .i64 0, .int .i64 0, .int .i64 0, .int .i64 0]))
        exact bodyPost_ret (ofr_results _ _ _ _ _ _ _ _ rfl rfl (over4 HP4.out _ _ _ _)) rfl ⟨⟨0, 0, 0, 0⟩, 3, rfl, HOF.out, HB4.out.trans (stores_below _ _ (fun p hp => by have := fill_block _ _ _ _ hp; have := HB4.out.size; omega))⟩

end Go.Proofs.YtgelaffifjicoaaGreatDoor
