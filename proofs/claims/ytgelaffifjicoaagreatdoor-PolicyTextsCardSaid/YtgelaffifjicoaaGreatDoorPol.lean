/-
  WALKS: package policy: numbers, Check, of.
-/
import Derived.Test.YtgelaffifjicoaaGreatDoorDay
import Derived.Test.YtgelaffifjicoaaGreatDoorWords
namespace Go.Proofs.YtgelaffifjicoaaGreatDoor
open Go.RowKit
set_option linter.unusedSimpArgs false
set_option linter.unusedVariables false

/-- A policy as a value. -/
abbrev polV (d k m y : Int) : Value := .agg #[.int .i64 d, .int .i64 k, .int .i64 m, .int .i64 y]

set_option maxHeartbeats 400000 in
theorem numbers_any (d k m y : Int) (w : World) :
    Calls Tryz.prog 15 #[polV d k m y] w fun e w' => e = .returned (polV d k m y) ∧ Below w.heap.size w w' := by
  go_enter Tryz.func15, Tryz.ntmps15
  go_wp2
  refine bodyPost_ret (v := polV d k m y) (by simp [results, Tryz.results15, go_sem]) rfl ⟨rfl, ?_⟩
  (repeat' (first | with_reducible exact Below.refl _ _ | assumption | (with_reducible refine Below.drew ?_) | (with_reducible refine below_drewN ?_ _) | (with_reducible refine Below.alloc ?_ (by first | exact Nat.le_refl _ | (simp; done) | (simp; omega)) _) | (with_reducible refine Below.setCell ?_ (by first | exact Nat.le_refl _ | (simp; done) | (simp; omega)) _)))

/-- Why a policy may not be: the error's number. -/
def polChk (d k m y : Int) : Int :=
  if d < 0 ∨ 1000 < d ∨ k < 0 ∨ 1000 < k ∨ m < 0 ∨ 1000 < m ∨ y < 0 ∨ 1000 < y then 2 else if d = 0 ∧ k = 0 ∧ m = 0 ∧ y = 0 then 1 else 0

/-- The first i numbers are in range. -/
def polIn (i d k m y : Int) : Prop := (0 < i → 0 ≤ d ∧ d ≤ 1000) ∧ (1 < i → 0 ≤ k ∧ k ≤ 1000) ∧ (2 < i → 0 ≤ m ∧ m ≤ 1000) ∧ (3 < i → 0 ≤ y ∧ y ≤ 1000)
theorem polV_at (d k m y : Int) :
    (∀ w : World, (Instr.index 38 (polV d k m y) (.int .i64 0)).run Tryz.prog w = .ok (.int .i64 d) w) ∧ (∀ w : World, (Instr.index 38 (polV d k m y) (.int .i64 1)).run Tryz.prog w = .ok (.int .i64 k) w) ∧
    (∀ w : World, (Instr.index 38 (polV d k m y) (.int .i64 2)).run Tryz.prog w = .ok (.int .i64 m) w) ∧ (∀ w : World, (Instr.index 38 (polV d k m y) (.int .i64 3)).run Tryz.prog w = .ok (.int .i64 y) w) :=
  ⟨fun _ => by kernel_rfl, fun _ => by kernel_rfl, fun _ => by kernel_rfl, fun _ => by kernel_rfl⟩
theorem polChk_bad {d k m y : Int} (h : ¬ polIn 4 d k m y) : polChk d k m y = 2 := by
  unfold polIn at h; unfold polChk; rw [if_pos (by omega)]
theorem polChk_zero {d k m y : Int} (h : polIn 4 d k m y) (h0 : d = 0 ∧ k = 0 ∧ m = 0 ∧ y = 0) : polChk d k m y = 1 := by
  unfold polIn at h; unfold polChk; rw [if_neg (by omega), if_pos h0]
theorem polChk_ok {d k m y : Int} (h : polIn 4 d k m y) (h0 : ¬ (d = 0 ∧ k = 0 ∧ m = 0 ∧ y = 0)) : polChk d k m y = 0 := by
  unfold polIn at h; unfold polChk; rw [if_neg (by omega), if_neg h0]

set_option maxHeartbeats 400000 in
theorem check_any (d k m y : Int) (w : World) :
    Calls Tryz.prog 9 #[polV d k m y] w fun e w' => e = .returned (.int .i64 (polChk d k m y)) ∧ Below w.heap.size w w' := by
  obtain ⟨i0, i1, i2, i3⟩ := polV_at d k m y
  go_enter Tryz.func9, Tryz.ntmps9
  go_wp2_with fail
  refine (numbers_any d k m y _).mono ?_; rintro e w1 ⟨rfl, hb1⟩
  have hb : Below w.heap.size w w1 := ((Below.refl _ w).alloc (Nat.le_refl _) _).trans (hb1.mono (by simp))
  obtain ⟨hc, hf⟩ := bcell hb1
  clear hf
  go_wp2_with fail
  go_loop [7] (fun a => ∃ i : Nat, i ≤ 4 ∧ a = .int .i64 i ∧ polIn i d k m y) (fun a => 4 - (intOf a).toNat)
  case atStart => exact ⟨0, by omega, rfl, by unfold polIn; omega⟩
  case round =>
    obtain ⟨i, hi, rfl, hin⟩ := hrel
    have HI := Lib.hid hin
    clear hin
    rcases (show i = 0 ∨ i = 1 ∨ i = 2 ∨ i = 3 ∨ i = 4 from by omega) with rfl | rfl | rfl | rfl | rfl
    case inr.inr.inr.inr =>
      go_wp2
      all_goals
        go_ret
        have hin := HI.out
        unfold polIn at hin
        exact ⟨ret_int (by unfold polChk; split; omega; split <;> omega), hb⟩
    case inl =>
      have hin := HI.out
      unfold polIn at hin
      clear HI
      go_wp2
      · go_ret; exact ⟨ret_int (by rw [polChk_bad (by unfold polIn; omega)]), hb⟩
      · go_round
        case rel => exact ⟨1, by omega, rfl, by unfold polIn; omega⟩
        case measure => simp [intOf]
      · go_ret; exact ⟨ret_int (by rw [polChk_bad (by unfold polIn; omega)]), hb⟩
    case inr.inl =>
      have hin := HI.out
      unfold polIn at hin
      clear HI
      go_wp2
      · go_ret; exact ⟨ret_int (by rw [polChk_bad (by unfold polIn; omega)]), hb⟩
      · go_round
        case rel => exact ⟨2, by omega, rfl, by unfold polIn; omega⟩
        case measure => simp [intOf]
      · go_ret; exact ⟨ret_int (by rw [polChk_bad (by unfold polIn; omega)]), hb⟩
    case inr.inr.inl =>
      have hin := HI.out
      unfold polIn at hin
      clear HI
      go_wp2
      · go_ret; exact ⟨ret_int (by rw [polChk_bad (by unfold polIn; omega)]), hb⟩
      · go_round
        case rel => exact ⟨3, by omega, rfl, by unfold polIn; omega⟩
        case measure => simp [intOf]
      · go_ret; exact ⟨ret_int (by rw [polChk_bad (by unfold polIn; omega)]), hb⟩
    case inr.inr.inr.inl =>
      have hin := HI.out
      unfold polIn at hin
      clear HI
      go_wp2
      · go_ret; exact ⟨ret_int (by rw [polChk_bad (by unfold polIn; omega)]), hb⟩
      · go_round
        case rel => exact ⟨4, by omega, rfl, by unfold polIn; omega⟩
        case measure => simp [intOf]
      · go_ret; exact ⟨ret_int (by rw [polChk_bad (by unfold polIn; omega)]), hb⟩

/-- A snapshot. -/
structure Ref where
  m : ByteArray
  n : Int
  t : Int
  nm : ByteArray
  u : Int
deriving Inhabited, DecidableEq
abbrev Ref.v (x : Ref) : Value := .agg #[.string x.m, .int .i64 x.n, .int .i64 x.t, .string x.nm, .int .i64 x.u]
def Ref.cs (x : Ref) : List Value := [.string x.m, .int .i64 x.n, .int .i64 x.t, .string x.nm, .int .i64 x.u]
/-- A snapshot, as far as it is told from others. -/
structure One where
  m : ByteArray
  n : Int
  t : Int
deriving Inhabited, DecidableEq
abbrev One.v (x : One) : Value := .agg #[.string x.m, .int .i64 x.n, .int .i64 x.t]
def One.cs (x : One) : List Value := [.string x.m, .int .i64 x.n, .int .i64 x.t]
def Ref.one (x : Ref) : One := ⟨x.m, x.n, x.t⟩

set_option maxHeartbeats 400000 in
theorem of_any (x : Ref) (w : World) :
    Calls Tryz.prog 26 #[x.v] w fun e w' => e = .returned x.one.v ∧ Below w.heap.size w w' := by
  go_enter Tryz.func26, Tryz.ntmps26
  go_wp2
  refine bodyPost_ret (v := x.one.v) (by simp [results, Tryz.results26, go_sem, Ref.one]) rfl ⟨rfl, ?_⟩
  (repeat' (first | with_reducible exact Below.refl _ _ | assumption | (with_reducible refine Below.drew ?_) | (with_reducible refine below_drewN ?_ _) | (with_reducible refine Below.alloc ?_ (by first | exact Nat.le_refl _ | (simp; done) | (simp; omega)) _) | (with_reducible refine Below.setCell ?_ (by first | exact Nat.le_refl _ | (simp; done) | (simp; omega)) _)))

end Go.Proofs.YtgelaffifjicoaaGreatDoor
