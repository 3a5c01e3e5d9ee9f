/-
  PLAIN MATHEMATICS: how snapshots stand (by machine, the latest one first): a total order.
-/
import Derived.Test.YtgelaffifjicoaaGreatDoorCmp
namespace Go.Proofs.YtgelaffifjicoaaGreatDoor
open Go.RowKit
set_option linter.unusedSimpArgs false
set_option linter.unusedVariables false

theorem cb_self (a : List UInt8) : Lib.compareBytes a a = 0 := by
  induction a with
  | nil => rfl
  | cons x a ih => simp [Lib.compareBytes, ih]
theorem cb_eq : ∀ (a b : List UInt8), Lib.compareBytes a b = 0 → a = b
  | [], [], _ => rfl
  | [], _ :: _, h => by simp [Lib.compareBytes] at h
  | _ :: _, [], h => by simp [Lib.compareBytes] at h
  | a :: u, b :: v, h => by
    unfold Lib.compareBytes at h
    by_cases h1 : a < b
    · simp [h1] at h
    · by_cases h2 : b < a
      · simp [h1, h2] at h
      · rw [if_neg h1, if_neg h2] at h
        have : a = b := UInt8.le_antisymm (UInt8.not_lt.1 h2) (UInt8.not_lt.1 h1)
        rw [this, cb_eq u v h]
theorem cb_neg : ∀ (a b : List UInt8), Lib.compareBytes b a = - Lib.compareBytes a b
  | [], [] => rfl
  | [], _ :: _ => rfl
  | _ :: _, [] => rfl
  | a :: u, b :: v => by
    unfold Lib.compareBytes
    by_cases h1 : a < b
    · have h2 : ¬ b < a := UInt8.not_lt.2 (UInt8.le_of_lt h1)
      simp [h1, h2]
    · by_cases h2 : b < a
      · simp [h1, h2]
      · simp [h1, h2, cb_neg u v]
theorem cb_trans : ∀ (a b c : List UInt8), Lib.compareBytes a b < 0 → Lib.compareBytes b c < 0 → Lib.compareBytes a c < 0
  | [], [], _, h, _ => by simp [Lib.compareBytes] at h
  | [], _ :: _, [], _, h => by simp [Lib.compareBytes] at h
  | [], _ :: _, _ :: _, _, _ => by simp [Lib.compareBytes]
  | _ :: _, [], _, h, _ => by simp [Lib.compareBytes] at h
  | _ :: _, _ :: _, [], _, h => by simp [Lib.compareBytes] at h
  | a :: u, b :: v, c :: z, h, k => by
    unfold Lib.compareBytes at h k ⊢
    simp only [UInt8.lt_iff_toNat_lt] at *
    by_cases h1 : a.toNat < b.toNat
    · by_cases k1 : b.toNat < c.toNat
      · rw [if_pos (by omega)]; decide
      · by_cases k2 : c.toNat < b.toNat
        · simp [k1, k2] at k
        · rw [if_pos (by omega)]; decide
    · by_cases h2 : b.toNat < a.toNat
      · simp [h1, h2] at h
      · rw [if_neg h1, if_neg h2] at h
        by_cases k1 : b.toNat < c.toNat
        · rw [if_pos (by omega)]; decide
        · by_cases k2 : c.toNat < b.toNat
          · simp [k1, k2] at k
          · rw [if_neg k1, if_neg k2] at k
            rw [if_neg (by omega), if_neg (by omega)]
            exact cb_trans u v z h k
theorem ci_cases (x y : Int) : (x < y ∧ Lib.compareInt x y = -1) ∨ (x = y ∧ Lib.compareInt x y = 0) ∨ (y < x ∧ Lib.compareInt x y = 1) := by
  unfold Lib.compareInt
  by_cases h : x < y
  · simp [h]
  · by_cases h2 : y < x
    · simp [h, h2]
    · have : x = y := by omega
      simp [this]

/-- x stands ahead of y: an earlier machine; of one machine the later one. -/
def ahead (x y : One) : Prop := Lib.compareBytes x.m.data.toList y.m.data.toList < 0 ∨ (x.m = y.m ∧ (y.t < x.t ∨ (x.t = y.t ∧ y.n < x.n)))
theorem ba_eq {a b : ByteArray} (h : a.data.toList = b.data.toList) : a = b := by
  cases a; cases b; simp at h; simp [h]
theorem cb_zero (x y : One) : Lib.compareBytes x.m.data.toList y.m.data.toList = 0 ↔ x.m = y.m :=
  ⟨fun h => ba_eq (cb_eq _ _ h), fun h => by rw [h]; exact cb_self _⟩
theorem cf_ahead (x y : One) : cf x y < 0 ↔ ahead x y := by
  unfold cf or3 ahead
  have h1 := ci_cases y.t x.t
  have h2 := ci_cases y.n x.n
  have hm := cb_zero x y
  generalize Lib.compareInt y.t x.t = p at *
  generalize Lib.compareInt y.n x.n = q at *
  generalize Lib.compareBytes x.m.data.toList y.m.data.toList = c at *
  by_cases e : x.m = y.m
  · have hc := hm.2 e
    simp only [e, true_and]
    rw [if_neg (by omega)]
    split <;> omega
  · have hc : ¬ c = 0 := fun h => e (hm.1 h)
    simp only [e, false_and, or_false]
    rw [if_pos hc]
theorem ahead_irrefl (x : One) : ¬ ahead x x := by
  unfold ahead; rw [cb_self]; simp
theorem ahead_trans {x y z : One} (h : ahead x y) (k : ahead y z) : ahead x z := by
  unfold ahead at *
  rcases h with h | ⟨h, h'⟩
  · rcases k with k | ⟨k, k'⟩
    · exact .inl (cb_trans _ _ _ h k)
    · rw [← k]; exact .inl h
  · rw [h]
    rcases k with k | ⟨k, k'⟩
    · exact .inl k
    · exact .inr ⟨k, by omega⟩
theorem ahead_total (x y : One) : x = y ∨ ahead x y ∨ ahead y x := by
  unfold ahead
  by_cases h : Lib.compareBytes x.m.data.toList y.m.data.toList = 0
  · have hm : x.m = y.m := ba_eq (cb_eq _ _ h)
    by_cases h1 : x.t = y.t
    · by_cases h2 : x.n = y.n
      · left; cases x; cases y; simp_all
      · right
        rcases (show x.n < y.n ∨ y.n < x.n from by omega) with h3 | h3
        · exact .inr (.inr ⟨hm.symm, .inr ⟨h1.symm, h3⟩⟩)
        · exact .inl (.inr ⟨hm, .inr ⟨h1, h3⟩⟩)
    · right
      rcases (show x.t < y.t ∨ y.t < x.t from by omega) with h3 | h3
      · exact .inr (.inr ⟨hm.symm, .inl h3⟩)
      · exact .inl (.inr ⟨hm, .inl h3⟩)
  · right
    rcases (show Lib.compareBytes x.m.data.toList y.m.data.toList < 0 ∨ 0 < Lib.compareBytes x.m.data.toList y.m.data.toList from by omega) with h3 | h3
    · exact .inl (.inl h3)
    · exact .inr (.inl (by rw [cb_neg]; omega))

end Go.Proofs.YtgelaffifjicoaaGreatDoor
