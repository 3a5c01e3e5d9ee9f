/-
  PLAIN MATHEMATICS: months counted from the year 2000 on, and the day each begins with; days, weeks, months, years grow with the minutes.
-/
import Derived.Test.YtfjlhcapkfcpkaaMday
namespace Go.Proofs.Ytfjlhcapkfcpkaa.Day
set_option linter.unusedSimpArgs false
set_option linter.unusedVariables false

/-- The day a year begins with. -/
def dayY (y : Int) : Int := 365 * (y - 2000) + ((y + 3) / 4 - 500) - ((y + 99) / 100 - 20) + ((y + 399) / 400 - 5)
theorem dayY_succ (y : Int) : dayY (y + 1) = dayY y + ylen y := by
  unfold ylen leap dayY
  by_cases h4 : y % 4 = 0
  · by_cases h100 : y % 100 = 0
    · by_cases h400 : y % 400 = 0
      · simp [h4, h100, h400]; omega
      · simp [h4, h100, h400]; omega
    · simp [h4, h100]; omega
  · simp [h4]; omega
theorem dayY_cent (c : Int) : dayY (2000 + c * 400) = 146097 * c := by unfold dayY; omega
theorem dayY_sum (y : Int) (k : Nat) : dayY (y + k) = dayY y + sumY y k := by
  induction k with
  | zero => simp [sumY]
  | succ k ih =>
    rw [sumY_succ, show y + ((k + 1 : Nat) : Int) = (y + k) + 1 from by omega, dayY_succ, ih]; omega
/-- The days of a year ahead of a month, from 0 on. -/
def ahead (y m : Int) : Int := sumM y 0 m.toNat
theorem sumM_succ (y : Int) (m : Int) (k : Nat) : sumM y m (k + 1) = sumM y m k + mlen y (m + k) := by
  induction k generalizing m with
  | zero => simp [sumM]
  | succ k ih => rw [sumM, ih (m + 1), sumM]; rw [show m + 1 + (k : Int) = m + ((k + 1 : Nat) : Int) from by omega]; omega
theorem ahead_succ (y m : Int) (h : 0 ≤ m) : ahead y (m + 1) = ahead y m + mlen y m := by
  unfold ahead
  rw [show (m + 1).toNat = m.toNat + 1 from by omega, sumM_succ, show (0 : Int) + (m.toNat : Int) = m from by omega]
theorem ahead_zero (y : Int) : ahead y 0 = 0 := rfl
theorem ahead_12 (y : Int) : ahead y 12 = ylen y := sumM_12 y
/-- The day a month begins with: months from the year 2000 on. -/
def dayM (a : Int) : Int := dayY (2000 + a / 12) + ahead (2000 + a / 12) (a % 12)
theorem dayM_succ (a : Int) : dayM (a + 1) = dayM a + mlen (2000 + a / 12) (a % 12) := by
  unfold dayM
  by_cases h : a % 12 = 11
  · rw [show (a + 1) % 12 = 0 from by omega, show 2000 + (a + 1) / 12 = (2000 + a / 12) + 1 from by omega, h, dayY_succ, ← ahead_12, show (12 : Int) = 11 + 1 from rfl, ahead_succ _ _ (by omega), ahead_zero]; omega
  · rw [show (a + 1) % 12 = a % 12 + 1 from by omega, show (a + 1) / 12 = a / 12 from by omega, ahead_succ _ _ (by omega)]; omega
theorem dayM_lt (a : Int) : dayM a < dayM (a + 1) := by rw [dayM_succ]; have := mlen_bd (2000 + a / 12) (a % 12); omega
theorem dayM_add (a : Int) (k : Nat) : dayM a + k ≤ dayM (a + k) := by
  induction k with
  | zero => simp
  | succ k ih =>
    have := dayM_lt (a + k)
    rw [show a + ((k + 1 : Nat) : Int) = a + k + 1 from by omega]; omega
theorem dayM_le {a b : Int} (h : a ≤ b) : dayM a ≤ dayM b := by
  have := dayM_add a (b - a).toNat
  rw [show a + ((b - a).toNat : Int) = b from by omega] at this; omega
/-- A day lies in one month alone, and later days in no earlier ones. -/
theorem dayM_mono {a b n m : Int} (ha : dayM a ≤ n) (hn : n ≤ m) (hb : m < dayM (b + 1)) : a ≤ b := by
  apply Int.le_of_not_gt
  intro c
  have := dayM_le (show b + 1 ≤ a by omega)
  omega
theorem dayM_cent (c : Int) : dayM (c * 400 * 12) = 146097 * c := by
  unfold dayM
  rw [show c * 400 * 12 / 12 = c * 400 from by omega, show c * 400 * 12 % 12 = 0 from by omega, dayY_cent, ahead_zero]; omega

theorem months_spec (y : Int) (k : Nat) : ∀ (m r : Int), 0 ≤ m → 0 ≤ r → r < sumM y m k → ∃ j : Nat, j < k ∧ (months y k m r).1 = m + j ∧ (months y k m r).2 = r - sumM y m j ∧ 0 ≤ (months y k m r).2 ∧ (months y k m r).2 < mlen y (m + j) := by
  induction k with
  | zero => intro m r _ h0 h; simp [sumM] at h; omega
  | succ k ih =>
    intro m r hm h0 h
    rw [months]
    by_cases hr : mlen y m ≤ r
    · rw [if_pos hr]
      rw [sumM] at h
      obtain ⟨j, hj, h1, h2, h3, h4⟩ := ih (m + 1) (r - mlen y m) (by omega) (by omega) (by omega)
      refine ⟨j + 1, by omega, by rw [h1]; omega, by rw [h2, sumM]; omega, h3, ?_⟩
      rw [show m + ((j + 1 : Nat) : Int) = m + 1 + (j : Int) from by omega]; exact h4
    · rw [if_neg hr]; exact ⟨0, by omega, by simp, by simp [sumM], h0, by simp; omega⟩
theorem yr_day (n : Int) : dayY (yr n).1 + (yr n).2 = n ∧ 0 ≤ (yr n).2 ∧ (yr n).2 < ylen (yr n).1 := by
  obtain ⟨j, hj, h1, h2, h3, h4⟩ := yr_spec n
  rw [h1]
  refine ⟨?_, h3, h4⟩
  rw [dayY_sum, dayY_cent, h2]
  have := Int.mul_ediv_add_emod n 146097
  omega
/-- The month's place among all. -/
def mon (n : Int) : Int := ((yr n).1 - 2000) * 12 + (mo n).1
theorem mo_day (n : Int) : 0 ≤ (mo n).1 ∧ (mo n).1 ≤ 11 ∧ dayM (mon n) ≤ n ∧ n < dayM (mon n + 1) := by
  obtain ⟨h1, h2, h3⟩ := yr_day n
  obtain ⟨j, hj, m1, m2, m3, m4⟩ := months_spec (yr n).1 12 0 (yr n).2 (Int.le_refl _) h2 (by rw [sumM_12]; exact h3)
  have e1 : (mo n).1 = j := by unfold mo; omega
  have e0 : (mo n).1 = 0 + (j : Int) := by omega
  have ed : mon n / 12 = (yr n).1 - 2000 := by unfold mon; omega
  have em : mon n % 12 = j := by unfold mon; omega
  have es : dayM (mon n) = dayY (yr n).1 + sumM (yr n).1 0 j := by
    unfold dayM ahead
    rw [ed, em, show 2000 + ((yr n).1 - 2000) = (yr n).1 from by omega]; rfl
  refine ⟨by omega, by omega, by rw [es]; omega, ?_⟩
  rw [dayM_succ, es, ed, em, show 2000 + ((yr n).1 - 2000) = (yr n).1 from by omega]
  rw [show (0 : Int) + (j : Int) = j from by omega] at m4
  omega
/-- A place among the months that a day lies in is its month's. -/
theorem mon_of {a n : Int} (h1 : dayM a ≤ n) (h2 : n < dayM (a + 1)) : mon n = a := by
  obtain ⟨_, _, m1, m2⟩ := mo_day n
  have := dayM_mono h1 (Int.le_refl n) m2
  have := dayM_mono m1 (Int.le_refl n) h2
  omega
theorem yr_mon (n : Int) : (yr n).1 = 2000 + mon n / 12 ∧ (mo n).1 = mon n % 12 := by
  obtain ⟨h1, h2, _⟩ := mo_day n
  unfold mon; omega

/-- Later is no earlier. -/
theorem day_mono {x z : Int} (h : x ≤ z) : day x ≤ day z := by unfold day; omega
theorem week_mono {x z : Int} (h : x ≤ z) : week x ≤ week z := by have := day_mono h; unfold week; omega
theorem mon_mono {n m : Int} (h : n ≤ m) : mon n ≤ mon m := dayM_mono (mo_day n).2.2.1 h (mo_day m).2.2.2
theorem month_mono {x z : Int} (h : x ≤ z) : month x ≤ month z := mon_mono (day_mono h)
theorem year_mono {x z : Int} (h : x ≤ z) : year x ≤ year z := by
  have h1 := mon_mono (day_mono h)
  have h2 := (yr_mon (day x)).1
  have h3 := (yr_mon (day z)).1
  unfold year; omega

end Go.Proofs.Ytfjlhcapkfcpkaa.Day
