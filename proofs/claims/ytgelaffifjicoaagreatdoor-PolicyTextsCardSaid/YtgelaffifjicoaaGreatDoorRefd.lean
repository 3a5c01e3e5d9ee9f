/-
  WALKS: the document's Dec and Int.
-/
import Derived.Deep.QuietTactic
import Derived.BigQuiet
import Derived.Lib.ItoaLen
import Derived.Test.YtgelaffifjicoaaGreatDoorDecs
namespace Go.Proofs.YtgelaffifjicoaaGreatDoor
open Go.RowKit Go.Lib
set_option linter.unusedSimpArgs false
set_option linter.unusedVariables false

theorem itoa_small {n : Int} (h : 0 ≤ n) (h9 : n < 10) : itoa n = [UInt8.ofNat (48 + n.toNat)] := by
  rw [itoa_dec h, decDigits, dif_pos (by omega)]
theorem itoa_minus {n : Int} (h : n < 0) : itoa n = 45 :: itoa (-n) := by
  have e : itoa n = 45 :: decDigits n.natAbs := by unfold itoa; rw [if_pos h]
  rw [e, itoa_dec (n := -n) (by omega), show (-n).toNat = n.natAbs by omega]
theorem itoa_rec {n : Int} (h : n < 0 → n ≤ -10) (h9 : 0 ≤ n → 10 ≤ n) : itoa n = itoa (n.tdiv 10) ++ itoa (if n.tmod 10 < 0 then -(n.tmod 10) else n.tmod 10) := by
  by_cases hn : n < 0
  · have h1 := h hn
    obtain ⟨u, rfl⟩ : ∃ u : Nat, n = -(u : Int) := ⟨n.natAbs, by omega⟩
    have e1 : (-(u : Int)).tdiv 10 = -((u / 10 : Nat) : Int) := by rw [Int.neg_tdiv]; congr 1
    have e2 : (-(u : Int)).tmod 10 = -((u % 10 : Nat) : Int) := by rw [Int.neg_tmod]; congr 1
    rw [e1, e2, itoa_minus hn, itoa_minus (show -((u / 10 : Nat) : Int) < 0 by omega), Int.neg_neg, Int.neg_neg]
    have e3 : (if -((u % 10 : Nat) : Int) < 0 then -(-((u % 10 : Nat) : Int)) else -((u % 10 : Nat) : Int)) = ((u % 10 : Nat) : Int) := by split <;> omega
    have e4 : (if -((u % 10 : Nat) : Int) < 0 then ((u % 10 : Nat) : Int) else -((u % 10 : Nat) : Int)) = ((u % 10 : Nat) : Int) := by split <;> omega
    first | rw [e3] | rw [e4]
    rw [itoa_dec (by omega), itoa_dec (by omega), itoa_small (by omega) (by omega)]
    rw [decDigits, dif_neg (by omega)]
    have t1 : ((u : Int) / 10).toNat = u / 10 := by omega
    have t2 : ((u : Int) % 10).toNat = u % 10 := by omega
    simp [t1, t2]
  · have h1 := h9 (by omega)
    obtain ⟨u, rfl⟩ : ∃ u : Nat, n = (u : Int) := ⟨n.toNat, by omega⟩
    have e1 : ((u : Nat) : Int).tdiv 10 = ((u / 10 : Nat) : Int) := rfl
    have e2 : ((u : Nat) : Int).tmod 10 = ((u % 10 : Nat) : Int) := rfl
    rw [e1, e2, if_neg (by omega), itoa_dec (by omega), itoa_dec (by omega), itoa_small (by omega) (by omega)]
    rw [decDigits, dif_neg (by omega)]
    have t1 : ((u : Int) / 10).toNat = u / 10 := by omega
    have t2 : ((u : Int) % 10).toNat = u % 10 := by omega
    simp [t1, t2]

/-- How deep the document's Dec goes. -/
def deepD (n : Int) : Nat := 2 * n.natAbs + (if n < 0 then 1 else 0)
theorem conv_one (w : World) (x : Int) : (convert 64 9 (.slice (some ⟨w.heap.size, 0, none⟩) 1 1)).run Tryz.prog (w.alloc (.cells #[.int .u8 x] 5)) = .ok (.string ⟨#[UInt8.ofNat x.toNat]⟩) (w.alloc (.cells #[.int .u8 x] 5)) :=
  run_convert_bytes_arg (P := Tryz.prog) (w.alloc (.cells #[.int .u8 x] 5)) 64 5 Tryz.underlying64 Tryz.underlying5 w.heap.size 0 1 1 [x] rfl (fun i hi => by
    obtain rfl : i = 0 := by omega
    exact (Blk.new w 5 #[.int .u8 x]).cell 0) 9 Tryz.underlying9

set_option maxRecDepth 100000 in
set_option maxHeartbeats 1000000 in
theorem refDec_go (k : Nat) : ∀ (n : Int), deepD n < k → okI n → ∀ w : World,
    Calls Tryz.prog 19 #[.int .i64 n] w fun e w' => e = .returned (.string ⟨(itoa n).toArray⟩) ∧ Below w.heap.size w w' := by
  induction k with
  | zero => intro n h; exact absurd h (Nat.not_lt_zero _)
  | succ k ih =>
    intro n hk hn w
    have hn1 := hn.1
    have hn2 := hn.2
    unfold deepD at hk
    have IH := Lib.hid ih
    clear ih
    by_cases h0 : 0 ≤ n
    · by_cases h9 : n < 10
      · have hcv := conv_one w (48 + n)
        have e := itoa_small h0 h9
        have E := Lib.hid (show (⟨#[UInt8.ofNat (48 + n).toNat]⟩ : ByteArray) = ⟨(itoa n).toArray⟩ by rw [e, show (48 + n).toNat = 48 + n.toNat by omega])
        clear e
        go_enter Tryz.func19, Tryz.ntmps19
        go_wp2_with fail
        go_ret
        exact ⟨by rw [← E.out]; rfl, (Below.refl _ _).alloc (Nat.le_refl _) _⟩
      · rw [if_neg (by omega)] at hk
        have e := itoa_rec (n := n) (fun h => by omega) (fun _ => by omega)
        rw [Int.tdiv_eq_ediv_of_nonneg h0, Int.tmod_eq_emod_of_nonneg h0, if_neg (by omega)] at e
        obtain ⟨q, hq⟩ : ∃ q, n / 10 = q := ⟨_, rfl⟩
        obtain ⟨r, hr⟩ : ∃ r, n % 10 = r := ⟨_, rfl⟩
        have hr0 : 0 ≤ r := by omega
        have hr9 : r < 10 := by omega
        have hq0 : 1 ≤ q := by omega
        have hqn : 10 * q ≤ n := by omega
        rw [hq, hr] at e
        have hl1 := itoa_length_le q (by omega) (by omega)
        have hl2 := itoa_length_le r (by omega) (by omega)
        have E := Lib.hid (show (⟨(itoa q).toArray⟩ : ByteArray) ++ ⟨(itoa r).toArray⟩ = ⟨(itoa n).toArray⟩ by rw [e]; apply ba_ext; simp)
        clear e
        go_enter Tryz.func19, Tryz.ntmps19
        go_wp2_with fail
        refine (IH.out q (by unfold deepD; rw [if_neg (by omega)]; omega) (by unfold okI; omega) w).mono ?_; rintro e w1 ⟨rfl, hb⟩
        go_wp2_with fail
        refine (IH.out r (by unfold deepD; rw [if_neg (by omega)]; omega) (by unfold okI; omega) w1).mono ?_; rintro e w2 ⟨rfl, hb2⟩
        have HB := Lib.hid (hb.trans (hb2.mono hb.size))
        clear hb hb2
        go_wp2_with fail
        go_ret
        exact ⟨by rw [← E.out]; rfl, HB.out⟩
    · rw [if_pos (by omega)] at hk
      by_cases h9 : -10 < n
      · have hl := itoa_length_le (-n) (by omega) (by omega)
        have E := Lib.hid (show (⟨#[45]⟩ : ByteArray) ++ ⟨(itoa (-n)).toArray⟩ = ⟨(itoa n).toArray⟩ by rw [itoa_minus (n := n) (by omega)]; apply ba_ext; simp)
        go_enter Tryz.func19, Tryz.ntmps19
        go_wp2_with fail
        refine (IH.out (-n) (by unfold deepD; rw [if_neg (by omega)]; omega) (by unfold okI; omega) w).mono ?_; rintro e w1 ⟨rfl, hb⟩
        go_wp2_with fail
        go_ret
        exact ⟨by rw [← E.out]; rfl, hb⟩
      · have e := itoa_rec (n := n) (fun h => by omega) (fun _ => by omega)
        obtain ⟨q, hq⟩ : ∃ q, n.tdiv 10 = q := ⟨_, rfl⟩
        obtain ⟨r, hr⟩ : ∃ r, n.tmod 10 = r := ⟨_, rfl⟩
        have hn10 := Int.mul_tdiv_add_tmod n 10
        have hrr := Int.neg_tmod (-n) 10
        have hrz : -10 < r ∧ r ≤ 0 := by
          have h1 := Int.tmod_nonneg 10 (show 0 ≤ -n by omega)
          have h2 := Int.tmod_lt_of_pos (-n) (show (0 : Int) < 10 by omega)
          rw [Int.neg_neg] at hrr
          omega
        rw [hq, hr] at hn10
        clear hrr
        obtain ⟨hr1, hr0⟩ := hrz
        have hq0 : q ≤ -1 := by omega
        have hqn : n ≤ 10 * q := by omega
        rw [hq, hr] at e
        have hl1 := itoa_length_le q (by omega) (by omega)
        by_cases hrn : r < 0
        · rw [if_pos hrn] at e
          have hl2 := itoa_length_le (-r) (by omega) (by omega)
          have E := Lib.hid (show (⟨(itoa q).toArray⟩ : ByteArray) ++ ⟨(itoa (-r)).toArray⟩ = ⟨(itoa n).toArray⟩ by rw [e]; apply ba_ext; simp)
          have HQ := Lib.hid hn10
          clear e hn10
          go_enter Tryz.func19, Tryz.ntmps19
          go_wp2_with fail
          refine (IH.out q (by have := HQ.out; unfold deepD; rw [if_pos (by omega)]; omega) (by unfold okI; omega) w).mono ?_; rintro e w1 ⟨rfl, hb⟩
          go_wp2_with fail
          refine (IH.out (-r) (by unfold deepD; rw [if_neg (by omega)]; omega) (by unfold okI; omega) w1).mono ?_; rintro e w2 ⟨rfl, hb2⟩
          have HB := Lib.hid (hb.trans (hb2.mono hb.size))
          clear hb hb2
          go_wp2_with fail
          go_ret
          exact ⟨by rw [← E.out]; rfl, HB.out⟩
        · rw [if_neg hrn] at e
          obtain rfl : r = 0 := by omega
          have hl2 := itoa_length_le 0 (by omega) (by omega)
          have E := Lib.hid (show (⟨(itoa q).toArray⟩ : ByteArray) ++ ⟨(itoa 0).toArray⟩ = ⟨(itoa n).toArray⟩ by rw [e]; apply ba_ext; simp)
          have HQ := Lib.hid hn10
          clear e hn10
          go_enter Tryz.func19, Tryz.ntmps19
          go_wp2_with fail
          refine (IH.out q (by have := HQ.out; unfold deepD; rw [if_pos (by omega)]; omega) (by unfold okI; omega) w).mono ?_; rintro e w1 ⟨rfl, hb⟩
          go_wp2_with fail
          refine (IH.out 0 (by unfold deepD; rw [if_neg (by omega)]; omega) (by unfold okI; omega) w1).mono ?_; rintro e w2 ⟨rfl, hb2⟩
          have HB := Lib.hid (hb.trans (hb2.mono hb.size))
          clear hb hb2
          go_wp2_with fail
          go_ret
          exact ⟨by rw [← E.out]; rfl, HB.out⟩
theorem refDec_any (n : Int) (hn : okI n) (w : World) : Calls Tryz.prog 19 #[.int .i64 n] w fun e w' => e = .returned (.string ⟨(itoa n).toArray⟩) ∧ Below w.heap.size w w' := refDec_go (deepD n + 1) n (Nat.lt_succ_self _) hn w

end Go.Proofs.YtgelaffifjicoaaGreatDoor
