/-
  WALKS: the reference of layer 48: its floor, leap, days, date, Day, Week, Month, Year compute the plain functions of the layer.
-/
import Derived.Test.YtfjlhcapkfcpkaaKeys
import Derived.Test.YtfjlhcapkfcpkaaMono
namespace Go.Proofs.Ytfjlhcapkfcpkaa
open Go.RowKit
set_option linter.unusedSimpArgs false
set_option linter.unusedVariables false

set_option maxHeartbeats 400000 in
theorem floor48_any (a b : Int) (w : World) (ha : -9223372036854775808 ≤ a) (ha' : a ≤ 9223372036854775807) (hb : 2 ≤ b) (hb' : b ≤ 1000000) :
    Calls Try.prog 78 #[.int .i64 a, .int .i64 b] w fun e w' => e = .returned (.int .i64 (a / b)) ∧ w' = w := by
  have hb0 : ¬ b = 0 := by omega
  have hq := Day.quo_bd hb ha ha'
  have hr := Day.rem_bd (a := a) hb
  have hw : wrap64 (a.tdiv b) = a.tdiv b := IntWalk.wrap64_in _ ⟨by omega, by omega⟩
  have hwi : IntKind.i64.wrap (a.tdiv b) = a.tdiv b := by rw [IntKind.wrap_i64]; omega
  go_enter Try.func78, Try.ntmps78
  by_cases hn : a.tmod b < 0
  · have e := (Day.quo_neg hb hn).1
    go_wp2_with fail
    go_ret
    exact ⟨ret_int (by omega), rfl⟩
  · have e := (Day.quo_pos hb (by omega : 0 ≤ a.tmod b)).1
    go_wp2_with fail
    go_ret
    exact ⟨ret_int (by omega), rfl⟩

theorem tmod_zero (y : Int) {k : Int} (hk : k ≠ 0) : y.tmod k = 0 ↔ y % k = 0 := by
  rw [← Int.dvd_iff_tmod_eq_zero, ← Int.dvd_iff_emod_eq_zero]

set_option maxHeartbeats 400000 in
theorem leap48_any (y : Int) (w : World) (ha : -9223372036854775808 ≤ y) (ha' : y ≤ 9223372036854775807) :
    Calls Try.prog 82 #[.int .i64 y] w fun e w' => e = .returned (.bool (Day.leap y)) ∧ w' = w := by
  have t4 := tmod_zero y (k := 4) (by decide)
  have t100 := tmod_zero y (k := 100) (by decide)
  have t400 := tmod_zero y (k := 400) (by decide)
  have b4 := Day.rem_bd (a := y) (b := 4) (by omega)
  have b100 := Day.rem_bd (a := y) (b := 100) (by omega)
  have b400 := Day.rem_bd (a := y) (b := 400) (by omega)
  go_enter Try.func82, Try.ntmps82
  by_cases h4 : y % 4 = 0
  · have e4 := t4.2 h4
    by_cases h100 : y % 100 = 0
    · have e100 := t100.2 h100
      by_cases h400 : y % 400 = 0
      · have e400 := t400.2 h400
        have e : Day.leap y = true := by simp [Day.leap, h4, h400]
        rw [e]
        clear t4 t100 t400 h4 h100 h400
        go_wp2_with fail
        go_ret
        exact ⟨by simp [*], rfl⟩
      · have e400 : ¬ y.tmod 400 = 0 := fun c => h400 (t400.1 c)
        have e : Day.leap y = false := by simp [Day.leap, h400, h100]
        rw [e]
        clear t4 t100 t400 h4 h100 h400
        go_wp2_with fail
        go_ret
        exact ⟨by simp [*], rfl⟩
    · have e100 : ¬ y.tmod 100 = 0 := fun c => h100 (t100.1 c)
      have e : Day.leap y = true := by simp [Day.leap, h4, h100]
      rw [e]
      clear t4 t100 t400 h4 h100
      go_wp2_with fail
      go_ret
      exact ⟨rfl, rfl⟩
  · have e4 : ¬ y.tmod 4 = 0 := fun c => h4 (t4.1 c)
    have e : Day.leap y = false := by simp [Day.leap, h4]
    rw [e]
    clear t4 t100 t400 h4
    go_wp2_with fail
    go_ret
    exact ⟨rfl, rfl⟩

set_option maxHeartbeats 400000 in
theorem days48_any (y m : Int) (w : World) (ha : -9223372036854775808 ≤ y) (ha' : y ≤ 9223372036854775807) (hm : 1 ≤ m) (hm' : m ≤ 12) :
    Calls Try.prog 81 #[.int .i64 y, .int .i64 m] w fun e w' => e = .returned (.int .i64 (Day.mlen y (m - 1))) ∧ w' = w := by
  rcases (show m = 1 ∨ m = 2 ∨ m = 3 ∨ m = 4 ∨ m = 5 ∨ m = 6 ∨ m = 7 ∨ m = 8 ∨ m = 9 ∨ m = 10 ∨ m = 11 ∨ m = 12 from by omega) with rfl | rfl | rfl | rfl | rfl | rfl | rfl | rfl | rfl | rfl | rfl | rfl
  case inr.inl =>
    go_enter Try.func81, Try.ntmps81
    go_wp2_with fail
    refine (leap48_any y _ ha ha').mono ?_; rintro e w1 ⟨rfl, rfl⟩
    cases hl : Day.leap y with
    | true =>
      go_wp2_with fail
      go_ret
      exact ⟨by simp [Day.mlen, hl], rfl⟩
    | false =>
      go_wp2_with fail
      go_ret
      exact ⟨by simp [Day.mlen, hl], rfl⟩
  all_goals
    go_enter Try.func81, Try.ntmps81
    go_wp2_with fail
    go_ret
    exact ⟨by simp [Day.mlen], rfl⟩

theorem dayM_at (y m : Int) (h : 1 ≤ m) (h' : m ≤ 12) : Day.dayM ((y - 2000) * 12 + (m - 1) + 1) = Day.dayM ((y - 2000) * 12 + (m - 1)) + Day.mlen y (m - 1) := by
  rw [Day.dayM_succ, show ((y - 2000) * 12 + (m - 1)) / 12 = y - 2000 from by omega, show ((y - 2000) * 12 + (m - 1)) % 12 = m - 1 from by omega, show 2000 + (y - 2000) = y from by omega]
theorem yr_le (n : Int) : (Day.yr n).1 ≤ 2000 + n / 146097 * 400 + 399 := by
  obtain ⟨j, hj, h, _⟩ := Day.yr_spec n
  omega
theorem y_le {y m n : Int} (h : Day.dayM ((y - 2000) * 12 + (m - 1)) ≤ n) (hm : 1 ≤ m) : y ≤ 2000 + n / 146097 * 400 + 399 := by
  have h1 := Day.dayM_mono h (Int.le_refl n) (Day.mo_day n).2.2.2
  have h2 := (Day.yr_mon n).1
  have h3 := yr_le n
  omega
theorem date_end {y m r n : Int} (h : Day.dayM ((y - 2000) * 12 + (m - 1)) + r = n) (hr : 0 ≤ r) (hm : 1 ≤ m) (hm' : m ≤ 12) (hlt : r < Day.mlen y (m - 1)) : (Day.yr n).1 = y ∧ (Day.mo n).1 = m - 1 := by
  have h1 := dayM_at y m hm hm'
  have h2 := Day.mon_of (a := (y - 2000) * 12 + (m - 1)) (n := n) (by omega) (by omega)
  obtain ⟨h3, h4⟩ := Day.yr_mon n
  rw [h2] at h3 h4
  omega

set_option maxHeartbeats 400000 in
theorem date48_any (n : Int) (w : World) (ha : -9000000000000000000 ≤ n) (ha' : n ≤ 9000000000000000000) :
    Calls Try.prog 79 #[.int .i64 n] w fun e w' => (∃ r : Int, e = .returned (.tuple #[.int .i64 (Day.yr n).1, .int .i64 ((Day.mo n).1 + 1), .int .i64 r])) ∧ w' = w := by
  go_enter Try.func79, Try.ntmps79
  go_wp2_with fail
  refine (floor48_any n 146097 _ (by omega) (by omega) (by omega) (by omega)).mono ?_; rintro e w1 ⟨rfl, rfl⟩
  go_wp2_with fail
  refine (floor48_any n 146097 _ (by omega) (by omega) (by omega) (by omega)).mono ?_; rintro e w2 ⟨rfl, rfl⟩
  have h0 : Day.dayM ((400 * (n / 146097) + 2000 - 2000) * 12 + (1 - 1)) = 146097 * (n / 146097) := by
    rw [show (400 * (n / 146097) + 2000 - 2000) * 12 + (1 - 1) = n / 146097 * 400 * 12 from by omega, Day.dayM_cent]
  have H0 := Lib.hid h0
  clear h0
  go_wp2_with fail
  go_loopw [5, 6, 7] (fun a b c wr => ∃ y r m : Int, a = .int .i64 y ∧ b = .int .i64 r ∧ c = .int .i64 m ∧ 1 ≤ m ∧ m ≤ 12 ∧ 0 ≤ r ∧ r < 146097 ∧ 2000 + n / 146097 * 400 ≤ y ∧ y ≤ 2000 + n / 146097 * 400 + 399 ∧ Day.dayM ((y - 2000) * 12 + (m - 1)) + r = n ∧ wr = w2)
    (fun _ b _ _ => (intOf b).toNat)
  case atStart =>
    refine ⟨400 * (n / 146097) + 2000, _, 1, by go_num, rfl, rfl, by omega, by omega, ?_, ?_, by omega, by omega, ?_, rfl⟩
    · omega
    · omega
    · rw [H0.out]; omega
  case round =>
    obtain ⟨y, r, m, rfl, rfl, rfl, hm, hm', hr, hr', hy, hy', hd, rfl⟩ := hrel
    have hml := Day.mlen_bd y (m - 1)
    have HD := Lib.hid hd
    clear hd H0
    go_wp2_with fail
    refine (days48_any y m _ (by omega) (by omega) hm hm').mono ?_; rintro e w3 ⟨rfl, rfl⟩
    by_cases hge : Day.mlen y (m - 1) ≤ r
    · go_wp2_with fail
      refine (days48_any y m _ (by omega) (by omega) hm hm').mono ?_; rintro e w4 ⟨rfl, rfl⟩
      have hnx := dayM_at y m hm hm'
      by_cases h12 : m = 12
      · subst h12
        rw [show (12 : Int) - 1 = 11 from rfl] at hml hge hnx
        go_wp2_with fail
        go_roundw
        case rel =>
          have hd : Day.dayM ((y - 2000) * 12 + 11) + r = n := HD.out
          have hd2 : Day.dayM ((y + 1 - 2000) * 12 + (1 - 1)) + (r - Day.mlen y 11) = n := by
            rw [show (y + 1 - 2000) * 12 + (1 - 1) = (y - 2000) * 12 + 11 + 1 from by omega, hnx]; omega
          exact ⟨y + 1, r - Day.mlen y 11, 1, by go_num, by go_num, rfl, by omega, by omega, by omega, by omega, by omega, y_le (m := 1) (by omega) (by omega), hd2, by first | rfl | trivial⟩
        case measure => simp [intOf]; omega
      · have h13 : ¬ m + 1 = 13 := by omega
        go_wp2_with fail
        go_roundw
        case rel =>
          have hd := HD.out
          have hd2 : Day.dayM ((y - 2000) * 12 + (m + 1 - 1)) + (r - Day.mlen y (m - 1)) = n := by
            rw [show (y - 2000) * 12 + (m + 1 - 1) = (y - 2000) * 12 + (m - 1) + 1 from by omega, hnx]; omega
          exact ⟨y, r - Day.mlen y (m - 1), m + 1, rfl, by go_num, by go_num, by omega, by omega, by omega, by omega, by omega, by omega, hd2, by first | rfl | trivial⟩
        case measure => simp [intOf]; omega
    · have he := date_end HD.out hr hm hm' (by omega)
      go_wp2_with fail
      go_ret3
      exact ⟨⟨r + 1, by rw [he.1, he.2, show m - 1 + 1 = m from by omega]; rfl⟩, by first | rfl | trivial⟩

set_option maxHeartbeats 400000 in
theorem day48_any (x : Int) (w : World) (h : okI x) :
    Calls Try.prog 69 #[.int .i64 x] w fun e w' => e = .returned (.int .i64 (Day.day x)) ∧ w' = w := by
  go_enter Try.func69, Try.ntmps69
  go_wp2_with fail
  refine (floor48_any x 1440 _ h.1 h.2 (by omega) (by omega)).mono ?_; rintro e w1 ⟨rfl, rfl⟩
  go_wp2_with fail
  go_ret
  exact ⟨rfl, rfl⟩
set_option maxHeartbeats 400000 in
theorem week48_any (x : Int) (w : World) (h : okI x) :
    Calls Try.prog 70 #[.int .i64 x] w fun e w' => e = .returned (.int .i64 (Day.week x)) ∧ w' = w := by
  have hd := day_bd x h.1 h.2
  go_enter Try.func70, Try.ntmps70
  go_wp2_with fail
  refine (day48_any x _ h).mono ?_; rintro e w1 ⟨rfl, rfl⟩
  go_wp2_with fail
  refine (floor48_any (Day.day x + 5) 7 _ (by omega) (by omega) (by omega) (by omega)).mono ?_; rintro e w2 ⟨rfl, rfl⟩
  go_wp2_with fail
  go_ret
  exact ⟨rfl, rfl⟩
set_option maxHeartbeats 400000 in
theorem month48_any (x : Int) (w : World) (h : okI x) :
    Calls Try.prog 71 #[.int .i64 x] w fun e w' => e = .returned (.int .i64 (Day.month x)) ∧ w' = w := by
  have hd := day_bd x h.1 h.2
  have hy := yr_bd x h.1 h.2
  have hm := mo_bd (Day.day x)
  go_enter Try.func71, Try.ntmps71
  go_wp2_with fail
  refine (day48_any x _ h).mono ?_; rintro e w1 ⟨rfl, rfl⟩
  go_wp2_with fail
  refine (date48_any (Day.day x) _ (by omega) (by omega)).mono ?_; rintro e w2 ⟨⟨r, rfl⟩, rfl⟩
  go_wp2_with fail
  go_ret
  exact ⟨ret_int (by unfold Day.month; omega), rfl⟩
set_option maxHeartbeats 400000 in
theorem year48_any (x : Int) (w : World) (h : okI x) :
    Calls Try.prog 72 #[.int .i64 x] w fun e w' => e = .returned (.int .i64 (Day.year x)) ∧ w' = w := by
  have hd := day_bd x h.1 h.2
  go_enter Try.func72, Try.ntmps72
  go_wp2_with fail
  refine (day48_any x _ h).mono ?_; rintro e w1 ⟨rfl, rfl⟩
  go_wp2_with fail
  refine (date48_any (Day.day x) _ (by omega) (by omega)).mono ?_; rintro e w2 ⟨⟨r, rfl⟩, rfl⟩
  go_wp2_with fail
  go_ret
  exact ⟨rfl, rfl⟩

end Go.Proofs.Ytfjlhcapkfcpkaa
