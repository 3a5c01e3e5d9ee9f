/-
  PolicyTexts: the walk.
-/
import Derived.Test.YtgelaffifjicoaaGreatDoorOfq
import Derived.Test.YtgelaffifjicoaaGreatDoorAliv
namespace Go.Proofs.YtgelaffifjicoaaGreatDoor
open Go.RowKit Go.Lib
set_option linter.unusedSimpArgs false
set_option linter.unusedVariables false

theorem textOf_size (p : Pol) : (textOf p).size ≤ 300 := by
  by_cases h : p.chk = 0
  · rw [textOf_ok h, Lib.size_eq]
    have := txtL_len h
    simp [txt]; omega
  · rw [textOf_no h]; decide
theorem ofSays_text {p q : Pol} {x : Int} (h : OfSays (textOf p) q x) : (p.chk = 0 ∧ q = p ∧ x = 0) ∨ (¬ p.chk = 0 ∧ x = 3) := by
  by_cases hp : p.chk = 0
  · rw [textOf_ok hp] at h
    obtain ⟨a, b⟩ := ofSays_one h (.inl ⟨rfl, hp, by simp [txt]⟩ : OfSays (txt p) p 0)
    exact .inl ⟨hp, a, b⟩
  · refine .inr ⟨hp, ?_⟩
    rw [textOf_no hp] at h
    rcases h with ⟨_, _, h⟩ | ⟨h, _⟩
    · exact absurd h.symm txtL_ne
    · exact h

set_option maxRecDepth 100000 in
set_option maxHeartbeats 4000000 in
theorem texts_any (p : Pol) (s : ByteArray) (hss : s.size ≤ maxLen) (w : World) (hz : LibZ w) :
    Calls Tryz.prog 3 #[p.v, .string s] w fun e w' => e = .returned (.bool true) ∧ Below w.heap.size w w' := by
  have hsI : (s.size : Int) ≤ 9223372036854775807 := by unfold maxLen at hss; omega
  go_enter Tryz.func3, Tryz.ntmps3
  have bP := Blk.new w 23 #[.int .i64 p.d, .int .i64 p.k, .int .i64 p.m, .int .i64 p.y]
  have hb0 : Below w.heap.size w (w.alloc (.cells #[.int .i64 p.d, .int .i64 p.k, .int .i64 p.m, .int .i64 p.y] 23)) := by (repeat' (first | with_reducible exact Below.refl _ _ | assumption | (with_reducible refine Below.drew ?_) | (with_reducible refine below_drewN ?_ _) | (with_reducible refine Below.alloc ?_ (by first | exact Nat.le_refl _ | (simp; done) | (simp; omega)) _) | (with_reducible refine Below.setCell ?_ (by first | exact Nat.le_refl _ | (simp; done) | (simp; omega)) _)))
  have hz0 := hz.below hb0 (Nat.le_refl _)
  obtain ⟨m, hm⟩ := hz0.mx
  have hzz : w.heap.size < (w.alloc (.cells #[.int .i64 p.d, .int .i64 p.k, .int .i64 p.m, .int .i64 p.y] 23)).heap.size := by simp
  have HP := Lib.hid bP; have HB := Lib.hid hb0; have HM := Lib.hid hm; have HZ0 := Lib.hid hz
  clear hz bP hb0 hz0 hm
  go_wp2_with fail
  refine (alive49_any m _ HM.out).mono ?_; rintro e w1 ⟨rfl, hb1⟩
  have HP1 := Lib.hid (HP.out.below hb1 hzz); have HB1 := Lib.hid (HB.out.trans (hb1.mono HB.out.size))
  have hpl := HP1.out.lt
  clear hb1 hzz HP HB
  by_cases h200 : (200 : Int) < s.size
  · go_wp2_with fail
    go_ret
    exact ⟨rfl, HB1.out⟩
  have hs3 : s.size ≤ 300 := by omega
  go_wp2_with fail
  refine (ofP_any s hs3 w1 (HZ0.out.below HB1.out (Nat.le_refl _))).mono ?_; rintro e w2 ⟨q, x, rfl, hq, hb2⟩
  have HQ := Lib.hid hq
  have HP2 := Lib.hid ((HP1.out.below hb2 hpl).alloc (.cells #[.int .i64 q.d, .int .i64 q.k, .int .i64 q.m, .int .i64 q.y] 23)); have HB2 := Lib.hid ((HB1.out.trans (hb2.mono HB1.out.size)).alloc (by have := HB1.out.size; have := hb2.size; omega) (.cells #[.int .i64 q.d, .int .i64 q.k, .int .i64 q.m, .int .i64 q.y] 23))
  have HQ2 := Lib.hid (Blk.new w2 23 #[.int .i64 q.d, .int .i64 q.k, .int .i64 q.m, .int .i64 q.y])
  clear hb2 hq
  go_wp2_with fail
  obtain ⟨W2, hW2⟩ : ∃ W, W = w2.alloc (.cells #[.int .i64 q.d, .int .i64 q.k, .int .i64 q.m, .int .i64 q.y] 23) := ⟨_, rfl⟩
  have hs2 : w2.heap.size < W2.heap.size := by rw [hW2]; simp
  rw [← hW2] at HP2 HB2 HQ2 ⊢
  clear hW2
  refine (ofR_any s hs3 W2).mono ?_; rintro e w3 ⟨q', x', rfl, hq', hb3⟩
  obtain ⟨rfl, rfl⟩ := ofSays_one HQ.out hq'
  have HP3 := Lib.hid ((HP2.out.below hb3 HP2.out.lt).alloc (.cells #[.int .i64 q.d, .int .i64 q.k, .int .i64 q.m, .int .i64 q.y] 23)); have HB3 := Lib.hid ((HB2.out.trans (hb3.mono HB2.out.size)).alloc (by have := HB2.out.size; have := hb3.size; omega) (.cells #[.int .i64 q.d, .int .i64 q.k, .int .i64 q.m, .int .i64 q.y] 23))
  have HQ3 := Lib.hid ((HQ2.out.below hb3 hs2).alloc (.cells #[.int .i64 q.d, .int .i64 q.k, .int .i64 q.m, .int .i64 q.y] 23)); have HR3 := Lib.hid (Blk.new w3 23 #[.int .i64 q.d, .int .i64 q.k, .int .i64 q.m, .int .i64 q.y])
  have hz3 := hb3.size
  have hpw := HP2.out.lt
  have bP3 := HP2.out.below hb3 HP2.out.lt
  have p0 := bP3.cell 0; have p1 := bP3.cell 1; have p2 := bP3.cell 2; have p3 := bP3.cell 3
  simp only [List.getElem?_toArray, List.getElem?_cons_zero, List.getElem?_cons_succ] at p0 p1 p2 p3
  have hpw3 : w.heap.size < w3.heap.size := bP3.lt
  clear hb3 hq' HP2 HB2 HQ2 bP3
  obtain ⟨W3, hW3⟩ : ∃ W, W = w3.alloc (.cells #[.int .i64 q.d, .int .i64 q.k, .int .i64 q.m, .int .i64 q.y] 23) := ⟨_, rfl⟩
  have hs3' : w3.heap.size < W3.heap.size := by rw [hW3]; simp
  rw [← hW3] at HP3 HB3 HQ3 HR3
  have HW3 := Lib.hid hW3
  clear hW3
  go_wp2_with fail
  rw [← HW3.out]
  clear HW3 p0 p1 p2 p3
  have HZ3 := Lib.hid (HZ0.out.below HB3.out (Nat.le_refl _))
  refine (textP_any p W3 HZ3.out).mono ?_; rintro e w4 ⟨rfl, hb4⟩
  have HP4 := Lib.hid (HP3.out.below hb4 HP3.out.lt); have HB4 := Lib.hid (HB3.out.trans (hb4.mono HB3.out.size)); have HQ4 := Lib.hid (HQ3.out.below hb4 HQ3.out.lt); have HR4 := Lib.hid (HR3.out.below hb4 HR3.out.lt)
  have HZ4 := Lib.hid (HZ3.out.below hb4 (Nat.le_refl _))
  clear hb4 HP3 HB3 HQ3 HR3 HZ3
  go_wp2_with fail
  refine (ofP_any (textOf p) (textOf_size p) w4 HZ4.out).mono ?_; rintro e w5 ⟨r, y, rfl, hr, hb5⟩
  have HRS := Lib.hid (ofSays_text hr)
  have HP5 := Lib.hid ((HP4.out.below hb5 HP4.out.lt).alloc (.cells #[.int .i64 r.d, .int .i64 r.k, .int .i64 r.m, .int .i64 r.y] 23)); have HB5 := Lib.hid ((HB4.out.trans (hb5.mono HB4.out.size)).alloc (by have := HB4.out.size; have := hb5.size; omega) (.cells #[.int .i64 r.d, .int .i64 r.k, .int .i64 r.m, .int .i64 r.y] 23))
  have HQ5 := Lib.hid ((HQ4.out.below hb5 HQ4.out.lt).alloc (.cells #[.int .i64 r.d, .int .i64 r.k, .int .i64 r.m, .int .i64 r.y] 23)); have HR5 := Lib.hid ((HR4.out.below hb5 HR4.out.lt).alloc (.cells #[.int .i64 r.d, .int .i64 r.k, .int .i64 r.m, .int .i64 r.y] 23))
  have HS5 := Lib.hid (Blk.new w5 23 #[.int .i64 r.d, .int .i64 r.k, .int .i64 r.m, .int .i64 r.y])
  have bP5 := HP4.out.below hb5 HP4.out.lt
  have bQ5 := HQ4.out.below hb5 HQ4.out.lt
  have bR5 := HR4.out.below hb5 HR4.out.lt
  have p0 := bP5.cell 0; have p1 := bP5.cell 1; have p2 := bP5.cell 2; have p3 := bP5.cell 3
  have q0 := bQ5.cell 0; have q1 := bQ5.cell 1; have q2 := bQ5.cell 2; have q3 := bQ5.cell 3
  have r0 := bR5.cell 0; have r1 := bR5.cell 1; have r2 := bR5.cell 2; have r3 := bR5.cell 3
  simp only [List.getElem?_toArray, List.getElem?_cons_zero, List.getElem?_cons_succ] at p0 p1 p2 p3 q0 q1 q2 q3 r0 r1 r2 r3
  have hpw5 : w.heap.size < w5.heap.size := bP5.lt
  have hqw5 := bQ5.lt
  have hrw5 := bR5.lt
  clear hb5 hr bP5 bQ5 bR5 HP4 HB4 HQ4 HR4 HZ4
  obtain ⟨W5, hW5⟩ : ∃ W, W = w5.alloc (.cells #[.int .i64 r.d, .int .i64 r.k, .int .i64 r.m, .int .i64 r.y] 23) := ⟨_, rfl⟩
  rw [← hW5] at HP5 HB5 HQ5 HR5 HS5
  have HW5 := Lib.hid hW5
  clear hW5
  go_wp2_with fail
  rw [← HW5.out]
  clear HW5 p0 p1 p2 p3 q0 q1 q2 q3 r0 r1 r2 r3
  refine (refText_any p W5).mono ?_; rintro e w6 ⟨rfl, hb6⟩
  have HP6 := Lib.hid (HP5.out.below hb6 HP5.out.lt); have HS6 := Lib.hid (HS5.out.below hb6 HS5.out.lt); have HB6 := Lib.hid (HB5.out.trans (hb6.mono HB5.out.size))
  have p0 := HP6.out.cell 0; have p1 := HP6.out.cell 1; have p2 := HP6.out.cell 2; have p3 := HP6.out.cell 3
  simp only [List.getElem?_toArray, List.getElem?_cons_zero, List.getElem?_cons_succ] at p0 p1 p2 p3
  clear hb6 HP5 HS5 HB5 HQ5 HR5
  go_wp2_with fail
  refine (check_any p.d p.k p.m p.y w6).mono ?_; rintro e w7 ⟨rfl, hb7⟩
  have HP7 := Lib.hid (HP6.out.below hb7 HP6.out.lt); have HS7 := Lib.hid (HS6.out.below hb7 HS6.out.lt); have HB7 := Lib.hid (HB6.out.trans (hb7.mono HB6.out.size))
  clear hb7 HP6 HS6 HB6 p0 p1 p2 p3
  have p0 := HP7.out.cell 0; have p1 := HP7.out.cell 1; have p2 := HP7.out.cell 2; have p3 := HP7.out.cell 3
  have q0 := HS7.out.cell 0; have q1 := HS7.out.cell 1; have q2 := HS7.out.cell 2; have q3 := HS7.out.cell 3
  simp only [List.getElem?_toArray, List.getElem?_cons_zero, List.getElem?_cons_succ] at p0 p1 p2 p3 q0 q1 q2 q3
  rcases HRS.out with ⟨hch, rfl, rfl⟩ | ⟨hch, rfl⟩
  · have hc' : polChk r.d r.k r.m r.y = 0 := hch
    rw [hc']
    clear hch hc'
    go_wp2_with fail
    go_ret
    exact ⟨by first | rfl | simp, HB7.out⟩
  · have hc' : (polChk p.d p.k p.m p.y == 0) = false := by rw [beq_eq_false_iff_ne]; exact hch
    have hc2 : (polChk p.d p.k p.m p.y != 0) = true := by rw [bne_iff_ne]; exact hch
    have hc3 : ¬ polChk p.d p.k p.m p.y = 0 := hch
    clear hch
    go_wp2_with fail
    go_ret
    exact ⟨by first | rfl | simp, HB7.out⟩

end Go.Proofs.YtgelaffifjicoaaGreatDoor
