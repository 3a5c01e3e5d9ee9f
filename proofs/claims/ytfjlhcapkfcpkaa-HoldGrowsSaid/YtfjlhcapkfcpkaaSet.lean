/-
  WALKS: hold.Held, hold.Set with its closure, slices.IndexFunc and slices.Clone at snapshots.
-/
import Derived.Test.YtfjlhcapkfcpkaaGone
namespace Go.Proofs.Ytfjlhcapkfcpkaa
open Go.RowKit
set_option linter.unusedSimpArgs false
set_option linter.unusedVariables false

set_option maxHeartbeats 400000 in
theorem held_any (x : Ref) (now : Int) (w : World) :
    Calls Try.prog 20 #[x.v, .int .i64 now] w fun e w' => e = .returned (.bool (decide (now < x.u))) ∧ Below w.heap.size w w' := by
  go_enter Try.func20, Try.ntmps20
  by_cases h : now < x.u
  · go_wp2
    go_ret
    exact ⟨by simp [h], by (repeat' (first | with_reducible exact Below.refl _ _ | assumption | (with_reducible refine Below.drew ?_) | (with_reducible refine below_drewN ?_ _) | (with_reducible refine Below.alloc ?_ (by first | exact Nat.le_refl _ | (simp; done) | (simp; omega)) _) | (with_reducible refine Below.setCell ?_ (by first | exact Nat.le_refl _ | (simp; done) | (simp; omega)) _)))⟩
  · go_wp2
    go_ret
    exact ⟨by simp [h], by (repeat' (first | with_reducible exact Below.refl _ _ | assumption | (with_reducible refine Below.drew ?_) | (with_reducible refine below_drewN ?_ _) | (with_reducible refine Below.alloc ?_ (by first | exact Nat.le_refl _ | (simp; done) | (simp; omega)) _) | (with_reducible refine Below.setCell ?_ (by first | exact Nat.le_refl _ | (simp; done) | (simp; omega)) _)))⟩

/-- Is it the one that is asked for? -/
def hit (mach : ByteArray) (n : Int) (x : Ref) : Bool := decide (x.m = mach) && decide (x.n = n)

set_option maxHeartbeats 400000 in
theorem set1_any (x : Ref) (mach : ByteArray) (n : Int) (bm bn : Nat) (w : World) (hm : w.cell? ⟨bm, 0, none⟩ = some (.string mach)) (hn : w.cell? ⟨bn, 0, none⟩ = some (.int .i64 n)) :
    Calls Try.prog 23 #[x.v, .pointer (some ⟨bm, 0, none⟩), .pointer (some ⟨bn, 0, none⟩)] w fun e w' => e = .returned (.bool (hit mach n x)) ∧ Below w.heap.size w w' := by
  have hlm := World.block_lt_of_cell? w _ hm
  have hln := World.block_lt_of_cell? w _ hn
  simp only at hlm hln
  by_cases h1 : x.m = mach
  · by_cases h2 : x.n = n
    · subst h1 h2
      go_enter Try.func23, Try.ntmps23
      go_wp2
      go_ret
      exact ⟨by simp [hit], by (repeat' (first | with_reducible exact Below.refl _ _ | assumption | (with_reducible refine Below.drew ?_) | (with_reducible refine below_drewN ?_ _) | (with_reducible refine Below.alloc ?_ (by first | exact Nat.le_refl _ | (simp; done) | (simp; omega)) _) | (with_reducible refine Below.setCell ?_ (by first | exact Nat.le_refl _ | (simp; done) | (simp; omega)) _)))⟩
    · subst h1
      have e2 : ((x.n : Int) == n) = false := beq_eq_false_iff_ne.2 h2
      go_enter Try.func23, Try.ntmps23
      go_wp2
      go_ret
      exact ⟨by simp [hit, h2, e2], by (repeat' (first | with_reducible exact Below.refl _ _ | assumption | (with_reducible refine Below.drew ?_) | (with_reducible refine below_drewN ?_ _) | (with_reducible refine Below.alloc ?_ (by first | exact Nat.le_refl _ | (simp; done) | (simp; omega)) _) | (with_reducible refine Below.setCell ?_ (by first | exact Nat.le_refl _ | (simp; done) | (simp; omega)) _)))⟩
  · have e1 := toList_ne h1
    go_enter Try.func23, Try.ntmps23
    go_wp2
    go_ret
    exact ⟨by simp [hit, h1, e1], by (repeat' (first | with_reducible exact Below.refl _ _ | assumption | (with_reducible refine Below.drew ?_) | (with_reducible refine below_drewN ?_ _) | (with_reducible refine Below.alloc ?_ (by first | exact Nat.le_refl _ | (simp; done) | (simp; omega)) _) | (with_reducible refine Below.setCell ?_ (by first | exact Nat.le_refl _ | (simp; done) | (simp; omega)) _)))⟩

/-- The place of the first one; -1. -/
def place (l : List Ref) (mach : ByteArray) (n : Int) : Int := match l.findIdx? (hit mach n) with | some i => i | none => -1

theorem eg_set1 : ∀ args w, (callFunc 23 args).run Try.prog w = .ok (.enter 23 args) w := enters_of Try.func23 (by kernel_rfl) rfl

theorem findIdx_miss (l : List Ref) (p : Ref → Bool) (h : ∀ j (hj : j < l.length), p l[j] = false) : l.findIdx? p = none := by
  rw [List.findIdx?_eq_none_iff]
  intro x hx
  obtain ⟨j, hj, rfl⟩ := List.getElem_of_mem hx
  simpa using h j hj
theorem findIdx_hit (l : List Ref) (p : Ref → Bool) (k : Nat) (hk : k < l.length) (h : ∀ j (hj : j < k), p (l[j]'(by omega)) = false) (hp : p l[k] = true) : l.findIdx? p = some k := by
  rw [List.findIdx?_eq_some_iff_getElem]
  exact ⟨hk, hp, fun j hj => by simp [h j hj]⟩

set_option maxRecDepth 100000 in
set_option maxHeartbeats 400000 in
theorem index_any (l : List Ref) (mach : ByteArray) (n : Int) (bm bn : Nat) (A : Option Addr) (cap : Nat) (w : World) (hr : Reads w w.heap.size 5 A l.length (l.flatMap Ref.cs)) (hfew : l.length ≤ 60)
    (hm : w.cell? ⟨bm, 0, none⟩ = some (.string mach)) (hn : w.cell? ⟨bn, 0, none⟩ = some (.int .i64 n)) :
    Calls Try.prog 22 #[.slice A l.length cap, .func (.func 23) #[] #[.pointer (some ⟨bm, 0, none⟩), .pointer (some ⟨bn, 0, none⟩)]] w fun e w' => e = .returned (.int .i64 (place l mach n)) ∧ Below w.heap.size w w' := by
  have hlm := World.block_lt_of_cell? w _ hm
  have hln := World.block_lt_of_cell? w _ hn
  simp only at hlm hln
  have eg := eg_set1
  go_enter Try.func22, Try.ntmps22
  go_wp2_with fail
  go_loopw [8] (fun i wr => ∃ k : Nat, i = .int .i64 k ∧ k ≤ l.length ∧ (∀ j (hj : j < k) (hj' : j < l.length), hit mach n l[j] = false) ∧ Below w.heap.size w wr)
    (fun i _ => l.length - (intOf i).toNat)
  case atStart => exact ⟨0, rfl, Nat.zero_le _, fun j hj => absurd hj (by omega), Below.refl _ _⟩
  case round =>
    obtain ⟨k, rfl, hk, hmiss, hb⟩ := hrel
    have HM := Lib.hid hmiss
    clear hmiss
    by_cases hlt : k < l.length
    · obtain ⟨b, o, x, rfl, hx, hbl, c0, c1, c2, c3, c4⟩ := (hr.below hb).ref rfl hlt
      have HX := Lib.hid hx
      clear hx
      go_wp2_with fail
      refine (set1_any x mach n bm bn _ ((hb.cell (p := ⟨bm, 0, none⟩) hlm).trans hm) ((hb.cell (p := ⟨bn, 0, none⟩) hln).trans hn)).mono ?_; rintro e w1 ⟨rfl, hb1⟩
      have hb2 := hb.trans (hb1.mono hb.size)
      have hx := HX.out
      cases hh : hit mach n x with
      | true =>
        have hpl : place l mach n = k := by
          unfold place
          rw [findIdx_hit l (hit mach n) k hlt (fun j hj => HM.out j hj (by omega)) (by rw [← hx]; exact hh)]
        have HP := Lib.hid hpl
        clear hpl hx
        go_wp2_with fail
        go_ret
        exact ⟨ret_int HP.out.symm, hb2⟩
      | false =>
        have HH := Lib.hid hh
        clear hh hx
        go_wp2_with fail
        go_roundw
        case rel =>
          refine ⟨k + 1, by go_num, by omega, fun j hj hj' => ?_, hb2⟩
          by_cases e : j = k
          · subst e; rw [← HX.out]; exact HH.out
          · exact HM.out j (by omega) hj'
        case measure => simp [intOf]; omega
    · have hke : k = l.length := by omega
      subst hke
      have hpl : place l mach n = -1 := by
        unfold place
        rw [findIdx_miss l (hit mach n) (fun j hj => HM.out j hj hj)]
      have HP := Lib.hid hpl
      clear hpl
      go_wp2_with fail
      go_ret
      exact ⟨ret_int HP.out.symm, hb⟩

end Go.Proofs.Ytfjlhcapkfcpkaa
