/-
  PLAIN MATHEMATICS: minutes as days, weeks, months, years (what package day and the reference of layer 48 compute), without any program.
-/
import Derived.RowKit
namespace Go.Proofs.YtgelaffifjicoaaGreatDoor.Day
set_option linter.unusedSimpArgs false
set_option linter.unusedVariables false

/-- Is y a leap year? -/
def leap (y : Int) : Bool := y % 4 == 0 && (y % 100 != 0 || y % 400 == 0)
/-- Days of a year. -/
def ylen (y : Int) : Int := if leap y then 366 else 365
/-- Days of a month, from 0 on. -/
def mlen (y m : Int) : Int := if m = 1 then (if leap y then 29 else 28) else if m = 3 ∨ m = 5 ∨ m = 8 ∨ m = 10 then 30 else 31
/-- The year's walk: so many rounds at most. -/
def years : Nat → Int → Int → Int × Int
  | 0, y, r => (y, r)
  | k + 1, y, r => if r < ylen y then (y, r) else years k (y + 1) (r - ylen y)
/-- The month's walk. -/
def months (y : Int) : Nat → Int → Int → Int × Int
  | 0, m, r => (m, r)
  | k + 1, m, r => if mlen y m ≤ r then months y k (m + 1) (r - mlen y m) else (m, r)
def yr (n : Int) : Int × Int := years 400 (2000 + n / 146097 * 400) (n % 146097)
def mo (n : Int) : Int × Int := months (yr n).1 12 0 (yr n).2
def day (x : Int) : Int := x / 1440
def week (x : Int) : Int := (day x + 5) / 7
def month (x : Int) : Int := ((yr (day x)).1 - 2000) * 12 + (mo (day x)).1
def year (x : Int) : Int := (yr (day x)).1

theorem ylen_bd (y : Int) : 365 ≤ ylen y ∧ ylen y ≤ 366 := by unfold ylen; split <;> omega
theorem mlen_bd (y m : Int) : 28 ≤ mlen y m ∧ mlen y m ≤ 31 := by unfold mlen; repeat' split <;> omega

/-- The days of the k years from y on. -/
def sumY (y : Int) : Nat → Int
  | 0 => 0
  | k + 1 => ylen y + sumY (y + 1) k
theorem sumY_succ (y : Int) (k : Nat) : sumY y (k + 1) = sumY y k + ylen (y + k) := by
  induction k generalizing y with
  | zero => simp [sumY]
  | succ k ih => rw [sumY, ih (y + 1), sumY]; rw [show y + 1 + (k : Int) = y + ((k + 1 : Nat) : Int) from by omega]; omega
theorem leap_per (y c : Int) : leap (y + c * 400) = leap y := by
  unfold leap
  rw [show (y + c * 400) % 4 = y % 4 from by omega, show (y + c * 400) % 100 = y % 100 from by omega, show (y + c * 400) % 400 = y % 400 from by omega]
theorem ylen_per (y c : Int) : ylen (y + c * 400) = ylen y := by unfold ylen; rw [leap_per]
theorem sumY_per (y c : Int) (k : Nat) : sumY (y + c * 400) k = sumY y k := by
  induction k generalizing y with
  | zero => rfl
  | succ k ih => rw [sumY, sumY, ylen_per, show y + c * 400 + 1 = y + 1 + c * 400 from by omega, ih]
theorem sumY_400 : sumY 2000 400 = 146097 := by decide +kernel
theorem sumY_cent (c : Int) : sumY (2000 + c * 400) 400 = 146097 := by rw [sumY_per]; exact sumY_400

/-- The year's walk ends within the years whose days are more than what is left. -/
theorem years_spec (k : Nat) : ∀ (y r : Int), 0 ≤ r → r < sumY y k → ∃ j : Nat, j < k ∧ (years k y r).1 = y + j ∧ (years k y r).2 = r - sumY y j ∧ 0 ≤ (years k y r).2 ∧ (years k y r).2 < ylen (y + j) := by
  induction k with
  | zero => intro y r h0 h; simp [sumY] at h; omega
  | succ k ih =>
    intro y r h0 h
    rw [years]
    by_cases hr : r < ylen y
    · rw [if_pos hr]; exact ⟨0, by omega, by simp, by simp [sumY], h0, by simpa using hr⟩
    · rw [if_neg hr]
      rw [sumY] at h
      obtain ⟨j, hj, h1, h2, h3, h4⟩ := ih (y + 1) (r - ylen y) (by omega) (by omega)
      refine ⟨j + 1, by omega, by rw [h1]; omega, by rw [h2, sumY]; omega, h3, ?_⟩
      rw [show y + ((j + 1 : Nat) : Int) = y + 1 + (j : Int) from by omega]; exact h4
theorem yr_spec (n : Int) : ∃ j : Nat, j < 400 ∧ (yr n).1 = 2000 + n / 146097 * 400 + j ∧ (yr n).2 = n % 146097 - sumY (2000 + n / 146097 * 400) j ∧ 0 ≤ (yr n).2 ∧ (yr n).2 < ylen (2000 + n / 146097 * 400 + j) :=
  years_spec 400 _ _ (Int.emod_nonneg _ (by decide)) (by rw [sumY_cent]; exact Int.emod_lt_of_pos _ (by decide))

/-- The days of the k months from m on. -/
def sumM (y m : Int) : Nat → Int
  | 0 => 0
  | k + 1 => mlen y m + sumM y (m + 1) k
theorem sumM_12 (y : Int) : sumM y 0 12 = ylen y := by
  unfold ylen
  simp only [sumM, mlen]
  cases leap y <;> simp
theorem years_go {k : Nat} {y r : Int} (h : ¬ r < ylen y) : years (k + 1) y r = years k (y + 1) (r - ylen y) := by rw [years, if_neg h]
theorem years_end {k : Nat} {y r : Int} (h : r < ylen y) : years (k + 1) y r = (y, r) := by rw [years, if_pos h]
theorem months_go {k : Nat} {y m r : Int} (h : mlen y m ≤ r) : months y (k + 1) m r = months y k (m + 1) (r - mlen y m) := by rw [months, if_pos h]
theorem months_end {k : Nat} {y m r : Int} (h : ¬ mlen y m ≤ r) : months y (k + 1) m r = (m, r) := by rw [months, if_neg h]
/-- One round of the year's walk. -/
theorem years_round {k : Nat} {y r : Int} {p : Int × Int} (h0 : 0 ≤ r) (h : r < sumY y k) (hp : years k y r = p) (hr : ¬ r < ylen y) :
    ∃ j, k = j + 1 ∧ 0 ≤ r - ylen y ∧ r - ylen y < sumY (y + 1) j ∧ years j (y + 1) (r - ylen y) = p := by
  cases k with
  | zero => simp [sumY] at h; omega
  | succ j =>
    rw [sumY] at h; rw [years_go hr] at hp
    exact ⟨j, rfl, by omega, by omega, hp⟩
theorem years_last {k : Nat} {y r : Int} {p : Int × Int} (h0 : 0 ≤ r) (h : r < sumY y k) (hp : years k y r = p) (hr : r < ylen y) : p = (y, r) := by
  cases k with
  | zero => simp [sumY] at h; omega
  | succ j => rw [years_end hr] at hp; exact hp.symm
theorem months_round {k : Nat} {y m r : Int} {p : Int × Int} (h0 : 0 ≤ r) (h : r < sumM y m k) (hp : months y k m r = p) (hr : mlen y m ≤ r) :
    ∃ j, k = j + 1 ∧ 1 ≤ j ∧ 0 ≤ r - mlen y m ∧ r - mlen y m < sumM y (m + 1) j ∧ months y j (m + 1) (r - mlen y m) = p := by
  cases k with
  | zero => simp [sumM] at h; omega
  | succ j =>
    rw [sumM] at h; rw [months_go hr] at hp
    refine ⟨j, rfl, ?_, by omega, by omega, hp⟩
    cases j with
    | zero => simp [sumM] at h; omega
    | succ i => omega
theorem months_last {k : Nat} {y m r : Int} {p : Int × Int} (h0 : 0 ≤ r) (h : r < sumM y m k) (hp : months y k m r = p) (hr : ¬ mlen y m ≤ r) : p = (m, r) := by
  cases k with
  | zero => simp [sumM] at h; omega
  | succ j => rw [months_end hr] at hp; exact hp.symm

/-- Go's quotient and rest against the ones rounded down. -/
theorem quo_neg {a b : Int} (hb : 2 ≤ b) (h : a.tmod b < 0) : a.tdiv b - 1 = a / b ∧ a.tmod b + b = a % b := by
  have e := Int.mul_tdiv_add_tmod a b
  have e2 := Int.mul_ediv_add_emod a b
  have h1 := Int.emod_nonneg a (b := b) (by omega)
  have h2 := Int.emod_lt_of_pos a (b := b) (by omega)
  have hl2 : -b < a.tmod b := by
    have := Int.tmod_lt_of_pos (-a) (b := b) (by omega)
    rw [Int.neg_tmod] at this; omega
  have : a / b = a.tdiv b - 1 := by
    have h3 : b * (a / b - a.tdiv b) = a.tmod b - a % b := by rw [Int.mul_sub]; omega
    have h4 : a / b - a.tdiv b < 0 := by
      apply Int.lt_of_not_ge; intro hc
      have := Int.mul_nonneg (show 0 ≤ b by omega) hc
      omega
    have h5 : -2 < a / b - a.tdiv b := by
      apply Int.lt_of_not_ge; intro hc
      have := Int.mul_le_mul_of_nonneg_left hc (show 0 ≤ b by omega)
      omega
    omega
  refine ⟨this.symm, ?_⟩
  rw [this, Int.mul_sub] at e2
  omega
theorem quo_pos {a b : Int} (hb : 2 ≤ b) (h : 0 ≤ a.tmod b) : a.tdiv b = a / b ∧ a.tmod b = a % b := by
  have e := Int.mul_tdiv_add_tmod a b
  have e2 := Int.mul_ediv_add_emod a b
  have h1 := Int.emod_nonneg a (b := b) (by omega)
  have h2 := Int.emod_lt_of_pos a (b := b) (by omega)
  have hl := Int.tmod_lt_of_pos a (b := b) (by omega)
  have : a / b = a.tdiv b := by
    have h3 : b * (a / b - a.tdiv b) = a.tmod b - a % b := by rw [Int.mul_sub]; omega
    have h4 : a / b - a.tdiv b < 1 := by
      apply Int.lt_of_not_ge; intro hc
      have := Int.mul_le_mul_of_nonneg_left hc (show 0 ≤ b by omega)
      omega
    have h5 : -1 < a / b - a.tdiv b := by
      apply Int.lt_of_not_ge; intro hc
      have := Int.mul_le_mul_of_nonneg_left hc (show 0 ≤ b by omega)
      omega
    omega
  refine ⟨this.symm, ?_⟩
  rw [this] at e2
  omega
theorem quo_bd {a b : Int} (hb : 2 ≤ b) (h1 : -9223372036854775808 ≤ a) (h2 : a ≤ 9223372036854775807) : -4611686018427387904 ≤ a.tdiv b ∧ a.tdiv b ≤ 4611686018427387904 := by
  have e : (a.tdiv b).natAbs = a.natAbs / b.natAbs := Int.natAbs_tdiv a b
  have : a.natAbs / b.natAbs ≤ a.natAbs / 2 := Nat.div_le_div_left (by omega) (by omega)
  omega
theorem rem_bd {a b : Int} (hb : 2 ≤ b) : -b < a.tmod b ∧ a.tmod b < b := by
  have h1 := Int.tmod_lt_of_pos (-a) (b := b) (by omega)
  have h2 := Int.tmod_lt_of_pos a (b := b) (by omega)
  rw [Int.neg_tmod] at h1; omega
theorem div_bd {a b : Int} (hb : 2 ≤ b) (h1 : -9223372036854775808 ≤ a) (h2 : a ≤ 9223372036854775807) : -4611686018427387905 ≤ a / b ∧ a / b ≤ 4611686018427387904 := by
  have := quo_bd hb h1 h2
  by_cases h : a.tmod b < 0
  · have := quo_neg hb h; omega
  · have := quo_pos hb (by omega : 0 ≤ a.tmod b); omega

end Go.Proofs.YtgelaffifjicoaaGreatDoor.Day
