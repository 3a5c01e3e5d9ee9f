/-
  WALKS: package day: below, leap, length, date, Day, Week, Month, Year compute what the plain functions of XMday say.
-/
import Derived.Test.YtgelaffifjicoaaGreatDoorRows
import Derived.Test.YtgelaffifjicoaaGreatDoorMday
import Derived.WalkKit
import Derived.WalkSpells
import Derived.WalkLawsBesides
import Derived.Deep.QuietTactic
import Derived.BigQuiet
import Derived.Lib.Hide
namespace Go.Proofs.YtgelaffifjicoaaGreatDoor
open Go.RowKit
set_option linter.unusedSimpArgs false
set_option linter.unusedVariables false

theorem ret_int {k : IntKind} {a b : Int} (h : a = b) : Ending.returned (.int k a) = .returned (.int k b) := by rw [h]

theorem ret_tup2 {k : IntKind} {a b c d : Int} (h : a = c) (h' : b = d) : Ending.returned (.tuple #[.int k a, .int k b]) = .returned (.tuple #[.int k c, .int k d]) := by rw [h, h']

theorem below_drewN {B : Nat} {a w : World} (h : Below B a w) (n : Nat) : Below B a (w.drewN n) := ⟨h.os, h.tape, h.output, h.size, h.block⟩

set_option maxHeartbeats 400000 in
/-- day.below at a positive divisor: the quotient rounded down and what is left. -/
theorem below_any (a b : Int) (w : World) (ha : -9223372036854775808 ≤ a) (ha' : a ≤ 9223372036854775807) (hb : 2 ≤ b) (hb' : b ≤ 1000000) :
    Calls Tryz.prog 41 #[.int .i64 a, .int .i64 b] w fun e w' => e = .returned (.tuple #[.int .i64 (a / b), .int .i64 (a % b)]) ∧ ∃ n, w' = w.drewN n := by
  have hb0 : ¬ b = 0 := by omega
  have hq := Day.quo_bd hb ha ha'
  have hr := Day.rem_bd (a := a) hb
  have hw : wrap64 (a.tdiv b) = a.tdiv b := IntWalk.wrap64_in _ ⟨by omega, by omega⟩
  go_enter Tryz.func41, Tryz.ntmps41
  by_cases hn : a.tmod b < 0
  · go_wp2_with fail
    go_quiet (fail)
    go_wp2
    have := Day.quo_neg hb hn
    go_ret2
    exact ⟨ret_tup2 this.1 this.2, _, rfl⟩
  · go_wp2_with fail
    go_quiet (fail)
    go_wp2
    have := Day.quo_pos hb (by omega : 0 ≤ a.tmod b)
    go_ret2
    exact ⟨ret_tup2 this.1 this.2, _, rfl⟩

/-- The world behind a call that left all old memory alone: what the walk wants of it. -/
theorem bcell {W w1 : World} (hb : Below W.heap.size W w1) : (∀ b o, b < W.heap.size → w1.cell? ⟨b, o, none⟩ = W.cell? ⟨b, o, none⟩) ∧ (∀ b o, b < W.heap.size → w1.frozen? ⟨b, o, none⟩ = W.frozen? ⟨b, o, none⟩) :=
  ⟨fun b o h => hb.cell (p := ⟨b, o, none⟩) h, fun b o h => hb.frozen (p := ⟨b, o, none⟩) h⟩

set_option maxHeartbeats 400000 in
theorem leap_any (y : Int) (w : World) (ha : -9223372036854775808 ≤ y) (ha' : y ≤ 9223372036854775807) :
    Calls Tryz.prog 57 #[.int .i64 y] w fun e w' => e = .returned (.bool (Day.leap y)) ∧ Below w.heap.size w w' := by
  go_enter Tryz.func57, Tryz.ntmps57
  go_wp2_with fail
  refine (below_any y 4 _ ha ha' (by omega) (by omega)).mono ?_; rintro e w1 ⟨rfl, n1, rfl⟩
  go_wp2_with fail
  refine (below_any y 100 _ ha ha' (by omega) (by omega)).mono ?_; rintro e w1 ⟨rfl, n2, rfl⟩
  go_wp2_with fail
  refine (below_any y 400 _ ha ha' (by omega) (by omega)).mono ?_; rintro e w1 ⟨rfl, n3, rfl⟩
  by_cases h4 : y % 4 = 0
  · by_cases h100 : y % 100 = 0
    · by_cases h400 : y % 400 = 0
      · have e : Day.leap y = true := by simp [Day.leap, h4, h400]
        go_wp2
        go_ret
        exact ⟨by simp [e, *], by (repeat' (first | with_reducible exact Below.refl _ _ | assumption | (with_reducible refine Below.drew ?_) | (with_reducible refine below_drewN ?_ _) | (with_reducible refine Below.alloc ?_ (by first | exact Nat.le_refl _ | (simp; done) | (simp; omega)) _) | (with_reducible refine Below.setCell ?_ (by first | exact Nat.le_refl _ | (simp; done) | (simp; omega)) _)))⟩
      · have e : Day.leap y = false := by simp [Day.leap, h400, h100]
        go_wp2
        go_ret
        exact ⟨by simp [e, *], by (repeat' (first | with_reducible exact Below.refl _ _ | assumption | (with_reducible refine Below.drew ?_) | (with_reducible refine below_drewN ?_ _) | (with_reducible refine Below.alloc ?_ (by first | exact Nat.le_refl _ | (simp; done) | (simp; omega)) _) | (with_reducible refine Below.setCell ?_ (by first | exact Nat.le_refl _ | (simp; done) | (simp; omega)) _)))⟩
    · have e : Day.leap y = true := by simp [Day.leap, h4, h100]
      go_wp2
      go_ret
      exact ⟨by simp [e, *], by (repeat' (first | with_reducible exact Below.refl _ _ | assumption | (with_reducible refine Below.drew ?_) | (with_reducible refine below_drewN ?_ _) | (with_reducible refine Below.alloc ?_ (by first | exact Nat.le_refl _ | (simp; done) | (simp; omega)) _) | (with_reducible refine Below.setCell ?_ (by first | exact Nat.le_refl _ | (simp; done) | (simp; omega)) _)))⟩
  · have e : Day.leap y = false := by simp [Day.leap, h4]
    go_wp2
    go_ret
    exact ⟨by simp [e, *], by (repeat' (first | with_reducible exact Below.refl _ _ | assumption | (with_reducible refine Below.drew ?_) | (with_reducible refine below_drewN ?_ _) | (with_reducible refine Below.alloc ?_ (by first | exact Nat.le_refl _ | (simp; done) | (simp; omega)) _) | (with_reducible refine Below.setCell ?_ (by first | exact Nat.le_refl _ | (simp; done) | (simp; omega)) _)))⟩

theorem mlen_at (y m : Int) (hm : 0 ≤ m) (hm' : m ≤ 11) (h : m = 1 → Day.leap y = false) : [Value.int IntKind.i64 31, Value.int IntKind.i64 28, Value.int IntKind.i64 31, Value.int IntKind.i64 30, Value.int IntKind.i64 31, Value.int IntKind.i64 30, Value.int IntKind.i64 31, Value.int IntKind.i64 31, Value.int IntKind.i64 30, Value.int IntKind.i64 31, Value.int IntKind.i64 30, Value.int IntKind.i64 31][m.toNat]? = some (Value.int IntKind.i64 (Day.mlen y m)) := by
  rcases (show m = 0 ∨ m = 1 ∨ m = 2 ∨ m = 3 ∨ m = 4 ∨ m = 5 ∨ m = 6 ∨ m = 7 ∨ m = 8 ∨ m = 9 ∨ m = 10 ∨ m = 11 from by omega) with rfl | rfl | rfl | rfl | rfl | rfl | rfl | rfl | rfl | rfl | rfl | rfl
  case inr.inl => simp [Day.mlen, h rfl]
  all_goals rfl

set_option maxHeartbeats 400000 in
theorem length_any (y m : Int) (w : World) (ha : -9223372036854775808 ≤ y) (ha' : y ≤ 9223372036854775807) (hm : 0 ≤ m) (hm' : m ≤ 11) :
    Calls Tryz.prog 58 #[.int .i64 y, .int .i64 m] w fun e w' => e = .returned (.int .i64 (Day.mlen y m)) ∧ Below w.heap.size w w' := by
  by_cases h1 : m = 1
  · subst h1
    go_enter Tryz.func58, Tryz.ntmps58
    go_wp2_with fail
    refine (leap_any y _ ha ha').mono ?_; rintro e w1 ⟨rfl, hb1⟩
    have hb : Below w.heap.size w w1 := ((Below.refl _ w).alloc (Nat.le_refl _) _).trans (hb1.mono (by simp))
    obtain ⟨hc, hf⟩ := bcell hb1
    by_cases hl : Day.leap y = true
    · go_wp2
      go_ret
      exact ⟨by simp [Day.mlen, hl], hb⟩
    · have hce := mlen_at y 1 (by omega) (by omega) (fun _ => by simpa using hl)
      have hl' : Day.leap y = false := by simpa using hl
      have e28 : Day.mlen y 1 = 28 := by simp [Day.mlen, hl']
      go_wp2
      go_ret
      exact ⟨by simp [e28], hb⟩
  · have hce := mlen_at y m hm hm' (fun h => absurd h h1)
    go_enter Tryz.func58, Tryz.ntmps58
    go_wp2
    go_ret
    exact ⟨by simp, by (repeat' (first | with_reducible exact Below.refl _ _ | assumption | (with_reducible refine Below.drew ?_) | (with_reducible refine below_drewN ?_ _) | (with_reducible refine Below.alloc ?_ (by first | exact Nat.le_refl _ | (simp; done) | (simp; omega)) _) | (with_reducible refine Below.setCell ?_ (by first | exact Nat.le_refl _ | (simp; done) | (simp; omega)) _)))⟩

set_option maxHeartbeats 400000 in
theorem date_any (n : Int) (w : World) (ha : -9223372036854775808 ≤ n) (ha' : n ≤ 9223372036854775807) :
    Calls Tryz.prog 42 #[.int .i64 n] w fun e w' => (∃ r : Int, e = .returned (.tuple #[.int .i64 (Day.yr n).1, .int .i64 (Day.mo n).1, .int .i64 r])) ∧ Below w.heap.size w w' := by
  have hd := Day.div_bd (a := n) (b := 146097) (by omega) ha ha'
  go_enter Tryz.func42, Tryz.ntmps42
  go_wp2_with fail
  refine (below_any n 146097 _ ha ha' (by omega) (by omega)).mono ?_; rintro e w1 ⟨rfl, n1, rfl⟩
  have hs0 : n % 146097 < Day.sumY (2000 + n / 146097 * 400) 400 := by rw [Day.sumY_cent]; exact Int.emod_lt_of_pos _ (by decide)
  have hr0 : 0 ≤ n % 146097 := Int.emod_nonneg _ (by decide)
  have hr1 : n % 146097 < 146097 := Int.emod_lt_of_pos _ (by decide)
  have HS0 := Lib.hid hs0; clear hs0
  go_wp2_with fail
  go_loopw [2, 4] (fun a b wr => ∃ (k : Nat) (y r : Int), a = .int .i64 y ∧ b = .int .i64 r ∧ k ≤ 400 ∧ y = 2000 + n / 146097 * 400 + (400 - k) ∧ 0 ≤ r ∧ r < 146097 ∧ r < Day.sumY y k ∧ Day.years k y r = Day.yr n ∧ Below w.heap.size w wr)
    (fun _ b _ => (intOf b).toNat)
  case atStart => exact ⟨400, _, _, rfl, rfl, by omega, by omega, hr0, hr1, HS0.out, rfl, by (repeat' (first | with_reducible exact Below.refl _ _ | assumption | (with_reducible refine Below.drew ?_) | (with_reducible refine below_drewN ?_ _) | (with_reducible refine Below.alloc ?_ (by first | exact Nat.le_refl _ | (simp; done) | (simp; omega)) _) | (with_reducible refine Below.setCell ?_ (by first | exact Nat.le_refl _ | (simp; done) | (simp; omega)) _)))⟩
  case round =>
    obtain ⟨k, y, r, rfl, rfl, hk, hy, hr, hr', hs, hyr, hb⟩ := hrel
    have hyl := Day.ylen_bd y
    have HS := Lib.hid hs; have HY := Lib.hid hyr; have Hy := Lib.hid hy
    have hya : -9223372036854775808 ≤ y ∧ y ≤ 9223372036854775000 := by omega
    clear hs hyr hy HS0
    obtain ⟨hya1, hya2⟩ := hya
    go_wp2_with fail
    refine (leap_any y _ (by omega) (by omega)).mono ?_; rintro e w1 ⟨rfl, hb1⟩
    have hb2 : Below w.heap.size w w1 := hb.trans (hb1.mono hb.size)
    cases hl : Day.leap y with
    | true =>
      have hlen : Day.ylen y = 366 := by simp [Day.ylen, hl]
      have HLn := Lib.hid hlen; clear hlen hl
      by_cases hlt : r < 366
      · have hyr := Day.years_last hr HS.out HY.out (by rw [HLn.out]; omega)
        have hsm : r < Day.sumM y 0 12 := by rw [Day.sumM_12, HLn.out]; exact hlt
        have HSM := Lib.hid hsm
        have HYR := Lib.hid hyr
        clear hyr hsm HS HY hb1
        go_wp2_with fail
        go_loopw [3, 4] (fun a b wr => ∃ (k : Nat) (m r : Int), a = .int .i64 m ∧ b = .int .i64 r ∧ m = 12 - k ∧ 1 ≤ k ∧ k ≤ 12 ∧ 0 ≤ r ∧ r < 366 ∧ r < Day.sumM y m k ∧ Day.months y k m r = Day.mo n ∧ Below w.heap.size w wr)
          (fun _ b _ => (intOf b).toNat)
        case atStart => exact ⟨12, 0, r, rfl, rfl, by omega, by omega, by omega, hr, by omega, HSM.out, by unfold Day.mo; rw [HYR.out], by assumption⟩
        case round =>
          clear HSM hb2 hlt hr hr'
          obtain ⟨k, m, r, rfl, rfl, hm, hk1, hk2, hr, hr', hs, hmo, hb⟩ := hrel
          have hml := Day.mlen_bd y m
          have hm0 : 0 ≤ m := by omega
          have hm1 : m ≤ 11 := by omega
          have HS := Lib.hid hs; have HM := Lib.hid hmo; have Hm := Lib.hid hm
          clear hs hmo hm
          go_wp2_with fail
          refine (length_any y m _ (by omega) (by omega) hm0 hm1).mono ?_; rintro e w2 ⟨rfl, hb3⟩
          have hb4 : Below w.heap.size w w2 := hb.trans (hb3.mono hb.size)
          by_cases hgo : Day.mlen y m ≤ r
          · go_wp2_with fail
            refine (length_any y m _ (by omega) (by omega) hm0 hm1).mono ?_; rintro e w3 ⟨rfl, hb5⟩
            have hb6 : Below w.heap.size w w3 := hb4.trans (hb5.mono hb4.size)
            clear hb3 hb4 hb5 hb
            go_wp2_with fail
            go_roundw
            case rel =>
              obtain ⟨j, hj, h1, h2, h3, h4⟩ := Day.months_round hr HS.out HM.out hgo
              have := Hm.out
              exact ⟨j, m + 1, _, by go_num, rfl, by omega, h1, by omega, h2, by omega, h3, h4, hb6⟩
            case measure => simp [intOf]; omega
          · go_wp2_with fail
            have hmo := Day.months_last hr HS.out HM.out (by omega)
            have hyr := HYR.out
            go_ret3
            exact ⟨⟨r, by rw [hyr, hmo]; rfl⟩, hb4⟩
      · go_wp2_with fail
        go_roundw
        case rel =>
          obtain ⟨j, hj, h1, h2, h3⟩ := Day.years_round hr HS.out HY.out (by rw [HLn.out]; omega)
          rw [HLn.out] at h1 h2 h3
          have := Hy.out
          exact ⟨j, y + 1, _, by go_num, rfl, by omega, by omega, h1, by omega, h2, h3, hb2⟩
        case measure => simp [intOf]; omega
    | false =>
      have hlen : Day.ylen y = 365 := by simp [Day.ylen, hl]
      have HLn := Lib.hid hlen; clear hlen hl
      by_cases hlt : r < 365
      · have hyr := Day.years_last hr HS.out HY.out (by rw [HLn.out]; omega)
        have hsm : r < Day.sumM y 0 12 := by rw [Day.sumM_12, HLn.out]; exact hlt
        have HSM := Lib.hid hsm
        have HYR := Lib.hid hyr
        clear hyr hsm HS HY hb1
        go_wp2_with fail
        go_loopw [3, 4] (fun a b wr => ∃ (k : Nat) (m r : Int), a = .int .i64 m ∧ b = .int .i64 r ∧ m = 12 - k ∧ 1 ≤ k ∧ k ≤ 12 ∧ 0 ≤ r ∧ r < 366 ∧ r < Day.sumM y m k ∧ Day.months y k m r = Day.mo n ∧ Below w.heap.size w wr)
          (fun _ b _ => (intOf b).toNat)
        case atStart => exact ⟨12, 0, r, rfl, rfl, by omega, by omega, by omega, hr, by omega, HSM.out, by unfold Day.mo; rw [HYR.out], by assumption⟩
        case round =>
          clear HSM hb2 hlt hr hr'
          obtain ⟨k, m, r, rfl, rfl, hm, hk1, hk2, hr, hr', hs, hmo, hb⟩ := hrel
          have hml := Day.mlen_bd y m
          have hm0 : 0 ≤ m := by omega
          have hm1 : m ≤ 11 := by omega
          have HS := Lib.hid hs; have HM := Lib.hid hmo; have Hm := Lib.hid hm
          clear hs hmo hm
          go_wp2_with fail
          refine (length_any y m _ (by omega) (by omega) hm0 hm1).mono ?_; rintro e w2 ⟨rfl, hb3⟩
          have hb4 : Below w.heap.size w w2 := hb.trans (hb3.mono hb.size)
          by_cases hgo : Day.mlen y m ≤ r
          · go_wp2_with fail
            refine (length_any y m _ (by omega) (by omega) hm0 hm1).mono ?_; rintro e w3 ⟨rfl, hb5⟩
            have hb6 : Below w.heap.size w w3 := hb4.trans (hb5.mono hb4.size)
            clear hb3 hb4 hb5 hb
            go_wp2_with fail
            go_roundw
            case rel =>
              obtain ⟨j, hj, h1, h2, h3, h4⟩ := Day.months_round hr HS.out HM.out hgo
              have := Hm.out
              exact ⟨j, m + 1, _, by go_num, rfl, by omega, h1, by omega, h2, by omega, h3, h4, hb6⟩
            case measure => simp [intOf]; omega
          · go_wp2_with fail
            have hmo := Day.months_last hr HS.out HM.out (by omega)
            have hyr := HYR.out
            go_ret3
            exact ⟨⟨r, by rw [hyr, hmo]; rfl⟩, hb4⟩
      · go_wp2_with fail
        go_roundw
        case rel =>
          obtain ⟨j, hj, h1, h2, h3⟩ := Day.years_round hr HS.out HY.out (by rw [HLn.out]; omega)
          rw [HLn.out] at h1 h2 h3
          have := Hy.out
          exact ⟨j, y + 1, _, by go_num, rfl, by omega, by omega, h1, by omega, h2, h3, hb2⟩
        case measure => simp [intOf]; omega

set_option maxHeartbeats 400000 in
theorem day_any (x : Int) (w : World) (ha : -9223372036854775808 ≤ x) (ha' : x ≤ 9223372036854775807) :
    Calls Tryz.prog 21 #[.int .i64 x] w fun e w' => e = .returned (.int .i64 (Day.day x)) ∧ Below w.heap.size w w' := by
  go_enter Tryz.func21, Tryz.ntmps21
  go_wp2_with fail
  refine (below_any x 1440 _ ha ha' (by omega) (by omega)).mono ?_; rintro e w1 ⟨rfl, n1, rfl⟩
  go_wp2_with fail
  go_ret
  exact ⟨rfl, by (repeat' (first | with_reducible exact Below.refl _ _ | assumption | (with_reducible refine Below.drew ?_) | (with_reducible refine below_drewN ?_ _) | (with_reducible refine Below.alloc ?_ (by first | exact Nat.le_refl _ | (simp; done) | (simp; omega)) _) | (with_reducible refine Below.setCell ?_ (by first | exact Nat.le_refl _ | (simp; done) | (simp; omega)) _)))⟩

theorem day_bd (x : Int) (ha : -9223372036854775808 ≤ x) (ha' : x ≤ 9223372036854775807) : -9000000000000000000 ≤ Day.day x ∧ Day.day x ≤ 9000000000000000000 := by
  have := Day.div_bd (a := x) (b := 1440) (by omega) ha ha'
  unfold Day.day; omega

set_option maxHeartbeats 400000 in
theorem week_any (x : Int) (w : World) (ha : -9223372036854775808 ≤ x) (ha' : x ≤ 9223372036854775807) :
    Calls Tryz.prog 22 #[.int .i64 x] w fun e w' => e = .returned (.int .i64 (Day.week x)) ∧ Below w.heap.size w w' := by
  have hd := day_bd x ha ha'
  go_enter Tryz.func22, Tryz.ntmps22
  go_wp2_with fail
  refine (day_any x _ ha ha').mono ?_; rintro e w1 ⟨rfl, hb1⟩
  go_wp2_with fail
  refine (below_any (Day.day x + 5) 7 _ (by omega) (by omega) (by omega) (by omega)).mono ?_; rintro e w2 ⟨rfl, n1, rfl⟩
  go_wp2_with fail
  go_ret
  exact ⟨rfl, by (repeat' (first | with_reducible exact Below.refl _ _ | assumption | (with_reducible refine Below.drew ?_) | (with_reducible refine below_drewN ?_ _) | (with_reducible refine Below.alloc ?_ (by first | exact Nat.le_refl _ | (simp; done) | (simp; omega)) _) | (with_reducible refine Below.setCell ?_ (by first | exact Nat.le_refl _ | (simp; done) | (simp; omega)) _)))⟩

theorem yr_bd (x : Int) (ha : -9223372036854775808 ≤ x) (ha' : x ≤ 9223372036854775807) : -100000000000000000 ≤ (Day.yr (Day.day x)).1 ∧ (Day.yr (Day.day x)).1 ≤ 100000000000000000 := by
  obtain ⟨j, hj, h, _⟩ := Day.yr_spec (Day.day x)
  rw [h]; unfold Day.day; omega

theorem mo_bd (n : Int) : 0 ≤ (Day.mo n).1 ∧ (Day.mo n).1 ≤ 12 := by
  suffices H : ∀ (k : Nat) (y m r : Int), m ≤ (Day.months y k m r).1 ∧ (Day.months y k m r).1 ≤ m + k by
    have := H 12 (Day.yr n).1 0 (Day.yr n).2; unfold Day.mo; omega
  intro k
  induction k with
  | zero => intro y m r; simp [Day.months]
  | succ k ih => intro y m r; rw [Day.months]; split; have := ih y (m + 1) (r - Day.mlen y m); omega; simp; omega

set_option maxHeartbeats 400000 in
theorem month_any (x : Int) (w : World) (ha : -9223372036854775808 ≤ x) (ha' : x ≤ 9223372036854775807) :
    Calls Tryz.prog 23 #[.int .i64 x] w fun e w' => e = .returned (.int .i64 (Day.month x)) ∧ Below w.heap.size w w' := by
  have hd := day_bd x ha ha'
  have hy := yr_bd x ha ha'
  have hm := mo_bd (Day.day x)
  go_enter Tryz.func23, Tryz.ntmps23
  go_wp2_with fail
  refine (day_any x _ ha ha').mono ?_; rintro e w1 ⟨rfl, hb1⟩
  go_wp2_with fail
  refine (date_any (Day.day x) _ (by omega) (by omega)).mono ?_; rintro e w2 ⟨⟨r, rfl⟩, hb2⟩
  go_wp2_with fail
  go_ret
  exact ⟨rfl, hb1.trans (hb2.mono hb1.size)⟩

set_option maxHeartbeats 400000 in
theorem year_any (x : Int) (w : World) (ha : -9223372036854775808 ≤ x) (ha' : x ≤ 9223372036854775807) :
    Calls Tryz.prog 24 #[.int .i64 x] w fun e w' => e = .returned (.int .i64 (Day.year x)) ∧ Below w.heap.size w w' := by
  have hd := day_bd x ha ha'
  go_enter Tryz.func24, Tryz.ntmps24
  go_wp2_with fail
  refine (day_any x _ ha ha').mono ?_; rintro e w1 ⟨rfl, hb1⟩
  go_wp2_with fail
  refine (date_any (Day.day x) _ (by omega) (by omega)).mono ?_; rintro e w2 ⟨⟨r, rfl⟩, hb2⟩
  go_wp2_with fail
  go_ret
  exact ⟨rfl, hb1.trans (hb2.mono hb1.size)⟩

end Go.Proofs.YtgelaffifjicoaaGreatDoor
