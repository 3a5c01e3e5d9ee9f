/-
  WALKS: policy.Text; the document's Check, Text and number.
-/
import Derived.Deep.RegionHeld3
import Derived.Test.YtgelaffifjicoaaGreatDoorRefi
import Derived.Test.YtgelaffifjicoaaGreatDoorSmall
namespace Go.Proofs.YtgelaffifjicoaaGreatDoor
open Go.RowKit Go.Lib
set_option linter.unusedSimpArgs false
set_option linter.unusedVariables false

/-! ### The document's Check -/
set_option maxHeartbeats 1000000 in
theorem refCheck_any (p : Pol) (w : World) :
    Calls Tryz.prog 18 #[p.v] w fun e w' => e = .returned (.int .i64 p.chk) ∧ Below w.heap.size w w' := by
  go_enter Tryz.func18, Tryz.ntmps18
  have bP := (Blk.new w 23 #[.int .i64 p.d, .int .i64 p.k, .int .i64 p.m, .int .i64 p.y]).alloc (.cells #[.int .i64 p.d, .int .i64 p.k, .int .i64 p.m, .int .i64 p.y] 3)
  have bL := Blk.new (w.alloc (.cells #[.int .i64 p.d, .int .i64 p.k, .int .i64 p.m, .int .i64 p.y] 23)) 3 #[.int .i64 p.d, .int .i64 p.k, .int .i64 p.m, .int .i64 p.y]
  rw [World.size_alloc] at bL
  have hb : Below w.heap.size w ((w.alloc (.cells #[.int .i64 p.d, .int .i64 p.k, .int .i64 p.m, .int .i64 p.y] 23)).alloc (.cells #[.int .i64 p.d, .int .i64 p.k, .int .i64 p.m, .int .i64 p.y] 3)) := by (repeat' (first | with_reducible exact Below.refl _ _ | assumption | (with_reducible refine Below.drew ?_) | (with_reducible refine below_drewN ?_ _) | (with_reducible refine Below.alloc ?_ (by first | exact Nat.le_refl _ | (simp; done) | (simp; omega)) _) | (with_reducible refine Below.setCell ?_ (by first | exact Nat.le_refl _ | (simp; done) | (simp; omega)) _)))
  have HB := Lib.hid hb; have HP := Lib.hid bP; have HL := Lib.hid bL
  clear hb bP bL
  go_wp2_with fail
  obtain ⟨W, hW⟩ : ∃ W, W = ((w.alloc (.cells #[.int .i64 p.d, .int .i64 p.k, .int .i64 p.m, .int .i64 p.y] 23)).alloc (.cells #[.int .i64 p.d, .int .i64 p.k, .int .i64 p.m, .int .i64 p.y] 3)) := ⟨_, rfl⟩
  rw [← hW] at HB HP HL ⊢
  clear hW
  have p0 := HP.out.cell 0; have p1 := HP.out.cell 1; have p2 := HP.out.cell 2; have p3 := HP.out.cell 3
  have l0 := HL.out.cell 0; have l1 := HL.out.cell 1; have l2 := HL.out.cell 2; have l3 := HL.out.cell 3
  simp only [List.getElem?_toArray, List.getElem?_cons_zero, List.getElem?_cons_succ] at p0 p1 p2 p3 l0 l1 l2 l3
  go_loop [15] (fun a => ∃ i : Nat, i ≤ 4 ∧ a = .int .i64 i ∧ polIn i p.d p.k p.m p.y) (fun a => 4 - (intOf a).toNat)
  case atStart => exact ⟨0, by omega, rfl, by unfold polIn; omega⟩
  case round =>
    obtain ⟨i, hi, rfl, hin⟩ := hrel
    rcases (show i = 0 ∨ i = 1 ∨ i = 2 ∨ i = 3 ∨ i = 4 from by omega) with rfl | rfl | rfl | rfl | rfl
    case inr.inr.inr.inr =>
      have hin' := hin
      unfold polIn at hin'
      obtain ⟨a0, a1, a2, a3⟩ := hin'
      obtain ⟨d0, d1⟩ := a0 (by decide); obtain ⟨k0, k1⟩ := a1 (by decide); obtain ⟨m0, m1⟩ := a2 (by decide); obtain ⟨y0, y1⟩ := a3 (by decide)
      have HI := Lib.hid hin
      clear hin a0 a1 a2 a3
      by_cases hz : p.d + p.k + p.m + p.y = 0
      · have hz' : (p.d + p.k + p.m + p.y == 0) = true := by rw [beq_iff_eq]; exact hz
        have HC := Lib.hid (show p.chk = 1 from polChk_zero HI.out (by omega))
        clear hz
        go_wp2_with fail
        go_ret
        exact ⟨ret_int (by rw [HC.out]), HB.out⟩
      · have hz' : (p.d + p.k + p.m + p.y == 0) = false := by rw [beq_eq_false_iff_ne]; exact hz
        have HC := Lib.hid (show p.chk = 0 from polChk_ok HI.out (by omega))
        clear hz
        go_wp2_with fail
        go_ret
        exact ⟨ret_int (by rw [HC.out]), HB.out⟩
    case inl =>
      by_cases hlo : p.d < 0
      · have HC := Lib.hid (show p.chk = 2 from polChk_bad (by unfold polIn; omega))
        clear hin
        go_wp2_with fail
        go_ret
        exact ⟨ret_int (by rw [HC.out]), HB.out⟩
      · by_cases hhi : 1000 < p.d
        · have HC := Lib.hid (show p.chk = 2 from polChk_bad (by unfold polIn; omega))
          clear hin
          go_wp2_with fail
          go_ret
          exact ⟨ret_int (by rw [HC.out]), HB.out⟩
        · have HI := Lib.hid hin
          clear hin
          go_wp2_with fail
          go_round
          case rel => exact ⟨1, by omega, rfl, by have hin := HI.out; unfold polIn at hin ⊢; omega⟩
          case measure => simp [intOf]
    case inr.inl =>
      by_cases hlo : p.k < 0
      · have HC := Lib.hid (show p.chk = 2 from polChk_bad (by unfold polIn; omega))
        clear hin
        go_wp2_with fail
        go_ret
        exact ⟨ret_int (by rw [HC.out]), HB.out⟩
      · by_cases hhi : 1000 < p.k
        · have HC := Lib.hid (show p.chk = 2 from polChk_bad (by unfold polIn; omega))
          clear hin
          go_wp2_with fail
          go_ret
          exact ⟨ret_int (by rw [HC.out]), HB.out⟩
        · have HI := Lib.hid hin
          clear hin
          go_wp2_with fail
          go_round
          case rel => exact ⟨2, by omega, rfl, by have hin := HI.out; unfold polIn at hin ⊢; omega⟩
          case measure => simp [intOf]
    case inr.inr.inl =>
      by_cases hlo : p.m < 0
      · have HC := Lib.hid (show p.chk = 2 from polChk_bad (by unfold polIn; omega))
        clear hin
        go_wp2_with fail
        go_ret
        exact ⟨ret_int (by rw [HC.out]), HB.out⟩
      · by_cases hhi : 1000 < p.m
        · have HC := Lib.hid (show p.chk = 2 from polChk_bad (by unfold polIn; omega))
          clear hin
          go_wp2_with fail
          go_ret
          exact ⟨ret_int (by rw [HC.out]), HB.out⟩
        · have HI := Lib.hid hin
          clear hin
          go_wp2_with fail
          go_round
          case rel => exact ⟨3, by omega, rfl, by have hin := HI.out; unfold polIn at hin ⊢; omega⟩
          case measure => simp [intOf]
    case inr.inr.inr.inl =>
      by_cases hlo : p.y < 0
      · have HC := Lib.hid (show p.chk = 2 from polChk_bad (by unfold polIn; omega))
        clear hin
        go_wp2_with fail
        go_ret
        exact ⟨ret_int (by rw [HC.out]), HB.out⟩
      · by_cases hhi : 1000 < p.y
        · have HC := Lib.hid (show p.chk = 2 from polChk_bad (by unfold polIn; omega))
          clear hin
          go_wp2_with fail
          go_ret
          exact ⟨ret_int (by rw [HC.out]), HB.out⟩
        · have HI := Lib.hid hin
          clear hin
          go_wp2_with fail
          go_round
          case rel => exact ⟨4, by omega, rfl, by have hin := HI.out; unfold polIn at hin ⊢; omega⟩
          case measure => simp [intOf]

/-! ### The document's Text -/
def textOf (p : Pol) : ByteArray := if p.chk = 0 then txt p else ⟨#[]⟩
theorem textOf_ok {p : Pol} (h : p.chk = 0) : textOf p = txt p := if_pos h
theorem textOf_no {p : Pol} (h : ¬ p.chk = 0) : textOf p = ⟨#[]⟩ := if_neg h
set_option maxRecDepth 100000 in
set_option maxHeartbeats 2000000 in
theorem refText_any (p : Pol) (w : World) :
    Calls Tryz.prog 8 #[p.v] w fun e w' => e = .returned (.string (textOf p)) ∧ Below w.heap.size w w' := by
  go_enter Tryz.func8, Tryz.ntmps8
  have bP := Blk.new w 23 #[.int .i64 p.d, .int .i64 p.k, .int .i64 p.m, .int .i64 p.y]
  have hb : Below w.heap.size w (w.alloc (.cells #[.int .i64 p.d, .int .i64 p.k, .int .i64 p.m, .int .i64 p.y] 23)) := by (repeat' (first | with_reducible exact Below.refl _ _ | assumption | (with_reducible refine Below.drew ?_) | (with_reducible refine below_drewN ?_ _) | (with_reducible refine Below.alloc ?_ (by first | exact Nat.le_refl _ | (simp; done) | (simp; omega)) _) | (with_reducible refine Below.setCell ?_ (by first | exact Nat.le_refl _ | (simp; done) | (simp; omega)) _)))
  have hzz : w.heap.size < (w.alloc (.cells #[.int .i64 p.d, .int .i64 p.k, .int .i64 p.m, .int .i64 p.y] 23)).heap.size := by simp
  have HB := Lib.hid hb; have HP := Lib.hid bP
  clear hb bP
  go_wp2_with fail
  refine (refCheck_any p _).mono ?_; rintro e w1 ⟨rfl, hb1⟩
  have HP1 := Lib.hid (HP.out.below hb1 hzz); have HB1 := Lib.hid (HB.out.trans (hb1.mono HB.out.size))
  have hzw := HP1.out.lt
  clear hb1 hzz HP HB
  by_cases hch : p.chk = 0
  case neg =>
    have hc' : (p.chk == 0) = false := by rw [beq_eq_false_iff_ne]; exact hch
    have HC := Lib.hid (textOf_no hch)
    clear hch
    go_wp2_with fail
    go_ret
    exact ⟨by rw [HC.out]; rfl, HB1.out⟩
  have HC := Lib.hid (textOf_ok hch)
  rw [hch]
  have n0 := chk_num hch 0; have n1 := chk_num hch 1; have n2 := chk_num hch 2; have n3 := chk_num hch 3
  have l0 := len_itoa n0; have l1 := len_itoa n1; have l2 := len_itoa n2; have l3 := len_itoa n3
  have e0 : p.num 0 = p.d := rfl
  have e1 : p.num 1 = p.k := rfl
  have e2 : p.num 2 = p.m := rfl
  have e3 : p.num 3 = p.y := rfl
  rw [e0] at n0 l0; rw [e1] at n1 l1; rw [e2] at n2 l2; rw [e3] at n3 l3
  have N0 := Lib.hid (show okI p.d by obtain ⟨a, b⟩ := n0; unfold okI; omega); have N1 := Lib.hid (show okI p.k by obtain ⟨a, b⟩ := n1; unfold okI; omega)
  have N2 := Lib.hid (show okI p.m by obtain ⟨a, b⟩ := n2; unfold okI; omega); have N3 := Lib.hid (show okI p.y by obtain ⟨a, b⟩ := n3; unfold okI; omega)
  clear e0 e1 e2 e3 n0 n1 n2 n3 hch
  have f1 : ¬ 9223372036854775807 < (itoa p.d).length + 2 := by omega
  have f2 : ¬ 9223372036854775807 < (itoa p.d).length + 2 + (itoa p.k).length := by omega
  have f3 : ¬ 9223372036854775807 < (itoa p.d).length + 2 + (itoa p.k).length + 2 := by omega
  have f4 : ¬ 9223372036854775807 < (itoa p.d).length + 2 + (itoa p.k).length + 2 + (itoa p.m).length := by omega
  have f5 : ¬ 9223372036854775807 < (itoa p.d).length + 2 + (itoa p.k).length + 2 + (itoa p.m).length + 2 := by omega
  have f6 : ¬ 9223372036854775807 < (itoa p.d).length + 2 + (itoa p.k).length + 2 + (itoa p.m).length + 2 + (itoa p.y).length := by omega
  have f7 : ¬ 9223372036854775807 < (itoa p.d).length + 2 + (itoa p.k).length + 2 + (itoa p.m).length + 2 + (itoa p.y).length + 1 := by omega
  obtain ⟨W, hW⟩ : ∃ W, W = w1 := ⟨_, rfl⟩
  rw [← hW] at HP1 HB1 hzw ⊢
  clear hW
  go_wp2_with fail
  have hS : ∀ w' : World, Below W.heap.size W w' → w'.cell? ⟨w.heap.size, 0, none⟩ = some (.int .i64 p.d) ∧ w'.cell? ⟨w.heap.size, 1, none⟩ = some (.int .i64 p.k) ∧ w'.cell? ⟨w.heap.size, 2, none⟩ = some (.int .i64 p.m) ∧ w'.cell? ⟨w.heap.size, 3, none⟩ = some (.int .i64 p.y) := by
    intro w' hb
    have bP := HP1.out.below hb hzw
    exact ⟨bP.cell 0, bP.cell 1, bP.cell 2, bP.cell 3⟩
  have HSS := Lib.hid hS
  clear hS
  have hcz := Below.refl W.heap.size W
  go_region_held3 (fun w' => w'.cell? ⟨w.heap.size, 0, none⟩ = some (.int .i64 p.d) ∧ w'.cell? ⟨w.heap.size, 1, none⟩ = some (.int .i64 p.k) ∧ w'.cell? ⟨w.heap.size, 2, none⟩ = some (.int .i64 p.m) ∧ w'.cell? ⟨w.heap.size, 3, none⟩ = some (.int .i64 p.y)) (first | exact HSS.out _ hcd | exact HSS.out _ hcc | exact HSS.out _ hcb | exact HSS.out _ hca | exact HSS.out _ (below_like hcz))
    (first | (go_at_call 19; have hqq := hcc; refine (refDec_any p.y N3.out _).mono ?_; rintro e wd ⟨rfl, hbd⟩; have hcd : Below W.heap.size W wd := hcc.trans ((below_like hbd (a' := wc) (b' := wd)).mono hcc.size)) | (go_at_call 19; have hqq := hcb; refine (refDec_any p.m N2.out _).mono ?_; rintro e wc ⟨rfl, hbc⟩; have hcc : Below W.heap.size W wc := hcb.trans ((below_like hbc (a' := wb) (b' := wc)).mono hcb.size)) | (go_at_call 19; have hqq := hca; refine (refDec_any p.k N1.out _).mono ?_; rintro e wb ⟨rfl, hbb⟩; have hcb : Below W.heap.size W wb := hca.trans ((below_like hbb (a' := wa) (b' := wb)).mono hca.size)) | (go_at_call 19; refine (refDec_any p.d N0.out _).mono ?_; rintro e wa ⟨rfl, hba⟩; have hca : Below W.heap.size W wa := below_like hba (a' := W) (b' := wa)))
  go_wp2_with fail
  go_ret
  refine ⟨?_, HB1.out.trans (hcd.mono HB1.out.size)⟩
  rw [HC.out]
  show Ending.returned (.string _) = Ending.returned (.string _)
  congr 2
  apply ba_ext
  simp [txt, txtL, parts, joinC, part, sgn, Pol.num]

end Go.Proofs.YtgelaffifjicoaaGreatDoor
