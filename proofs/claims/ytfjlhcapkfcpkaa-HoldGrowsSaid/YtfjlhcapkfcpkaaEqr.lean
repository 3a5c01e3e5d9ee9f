/-
  WALKS: what '==' says of snapshots; the law's 'great', the document's 'Refs' and 'Find'.
-/
import Derived.Laws.StructEq
import Derived.Deep.QuietTactic
import Derived.BigQuiet
import Derived.Test.YtfjlhcapkfcpkaaHset
namespace Go.Proofs.Ytfjlhcapkfcpkaa
open Go.RowKit
set_option linter.unusedSimpArgs false
set_option linter.unusedVariables false

theorem toList_inj {a b : ByteArray} (h : a.toList = b.toList) : a = b := by
  by_cases c : a = b
  · exact c
  · have := toList_ne c
    rw [beq_eq_false_iff_ne] at this
    exact absurd h this

theorem eq_ref (x y : Ref) (w : World) : (Op.equalIn 10000 38 x.v y.v).run Try.prog w = .ok (decide (x = y)) w := by
  have u3 := Try.underlying3
  have u2 := Try.underlying2
  have u9 := Try.underlying9
  have a3 := Try.isAgg3
  have a2 := Try.isAgg2
  have a9 := Try.isAgg9
  have z3 := Try.sizeOf3
  have z2 := Try.sizeOf2
  have z9 := Try.sizeOf9
  have hS : Try.prog.underlying 38 = some (.struct (Try.prog.fieldsOf 38)) := by kernel_rfl
  have hp : Try.prog.stoodInHeld 38 = false := by kernel_rfl
  rw [show (10000 : Nat) = 9999 + 1 from rfl, run_equalIn_agg w 9999 38 _ _ hS hp]
  simp only [Program.fieldsOf, Try.underlying38]
  go_simp
  obtain ⟨m, n, t, nm, u⟩ := x
  obtain ⟨m', n', t', nm', u'⟩ := y
  simp only [Ref.mk.injEq]
  by_cases h1 : m = m'
  · by_cases h2 : n = n'
    · by_cases h3 : t = t'
      · by_cases h4 : nm = nm'
        · by_cases h5 : u = u' <;> simp [h1, h2, h3, h4, h5]
        · have e4 : ¬ nm.toList = nm'.toList := fun c => h4 (toList_inj c)
          simp [h1, h2, h3, h4, e4]
      · simp [h1, h2, h3]
    · simp [h1, h2]
  · have e1 : ¬ m.toList = m'.toList := fun c => h1 (toList_inj c)
    simp [h1, e1]
theorem neq_ref (x y : Ref) (w : World) : (binOp .neq 38 x.v y.v).run Try.prog w = .ok (.bool (!decide (x = y))) w := by
  rw [run_neq_struct, eq_ref]
  rfl

set_option maxRecDepth 100000 in
set_option maxHeartbeats 400000 in
/-- Few, and none long? -/
theorem great_any (l : List Ref) (A : Option Addr) (cap : Nat) (w : World) (hr : Reads w w.heap.size 5 A l.length (l.flatMap Ref.cs)) (hlen : l.length ≤ maxLen) :
    Calls Try.prog 11 #[.slice A l.length cap] w fun e w' => (∃ v, e = .returned v ∧ (v = .bool true ∨ (v = .bool false ∧ l.length ≤ 60))) ∧ Below w.heap.size w w' := by
  go_enter Try.func11, Try.ntmps11
  by_cases hbig : (60 : Int) < l.length
  · go_wp2_with fail
    go_ret
    exact ⟨⟨_, rfl, .inl rfl⟩, by (repeat' (first | with_reducible exact Below.refl _ _ | assumption | (with_reducible refine Below.drew ?_) | (with_reducible refine below_drewN ?_ _) | (with_reducible refine Below.alloc ?_ (by first | exact Nat.le_refl _ | (simp; done) | (simp; omega)) _) | (with_reducible refine Below.setCell ?_ (by first | exact Nat.le_refl _ | (simp; done) | (simp; omega)) _)))⟩
  · have hfew : l.length ≤ 60 := by omega
    go_wp2_with fail
    go_loopw [3] (fun i wr => ∃ k : Nat, i = .int .i64 k ∧ k ≤ l.length ∧ Below w.heap.size w wr)
      (fun i _ => l.length - (intOf i).toNat)
    case atStart => exact ⟨0, rfl, Nat.zero_le _, Below.refl _ _⟩
    case round =>
      obtain ⟨k, rfl, hk, hb⟩ := hrel
      by_cases hlt : k < l.length
      · obtain ⟨b, o, x, rfl, hx, hbl, c0, c1, c2, c3, c4⟩ := (hr.below hb).ref rfl hlt
        have HX := Lib.hid hx
        have HR := Lib.hid hr
        clear hx hr
        by_cases h1 : (100 : Int) < x.m.size
        · go_wp2_with fail
          go_ret
          exact ⟨⟨_, rfl, .inl rfl⟩, hb⟩
        · by_cases h2 : (200 : Int) < x.nm.size
          · go_wp2_with fail
            go_ret
            exact ⟨⟨_, rfl, .inl rfl⟩, hb⟩
          · go_wp2_with fail
            go_roundw
            case rel => exact ⟨k + 1, by go_num, by omega, hb⟩
            case measure => simp [intOf]; omega
      · have hke : k = l.length := by omega
        subst hke
        go_wp2_with fail
        go_ret
        exact ⟨⟨_, rfl, .inr ⟨rfl, hfew⟩⟩, hb⟩

set_option maxRecDepth 100000 in
set_option maxHeartbeats 400000 in
/-- The same snapshots. -/
theorem refs50_any (l : List Ref) (A A' : Option Addr) (cap cap' : Nat) (w : World) (hr : Reads w w.heap.size 5 A l.length (l.flatMap Ref.cs)) (hr' : Reads w w.heap.size 5 A' l.length (l.flatMap Ref.cs)) (hfew : l.length ≤ 60) :
    Calls Try.prog 14 #[.slice A l.length cap, .slice A' l.length cap'] w fun e w' => e = .returned (.bool true) ∧ Below w.heap.size w w' := by
  go_enter Try.func14, Try.ntmps14
  go_wp2_with fail
  go_loopw [5] (fun i wr => ∃ k : Nat, i = .int .i64 k ∧ k ≤ l.length ∧ Below w.heap.size w wr)
    (fun i _ => l.length - (intOf i).toNat)
  case atStart => exact ⟨0, rfl, Nat.zero_le _, Below.refl _ _⟩
  case round =>
    obtain ⟨k, rfl, hk, hb⟩ := hrel
    by_cases hlt : k < l.length
    · obtain ⟨b, o, x, rfl, hx, hbl, c0, c1, c2, c3, c4⟩ := (hr.below hb).ref rfl hlt
      obtain ⟨b', o', x', rfl, hx', hbl', d0, d1, d2, d3, d4⟩ := (hr'.below hb).ref rfl hlt
      obtain rfl : x = x' := hx.trans hx'.symm
      have hne : ∀ W : World, (binOp .neq 38 x.v x.v).run Try.prog W = .ok (.bool false) W := fun W => by rw [neq_ref]; simp
      have hi : (k : Int) < (l.length : Int) := by omega
      clear hx hx' hr hr'
      go_wp2_with fail
      go_quiet (fail)
      go_wp2_with fail
      go_roundw
      case rel => exact ⟨k + 1, by go_num, by omega, below_drewN hb _⟩
      case measure => simp [intOf]; omega
    · have hke : k = l.length := by omega
      subst hke
      go_wp2_with fail
      go_ret
      exact ⟨rfl, hb⟩

end Go.Proofs.Ytfjlhcapkfcpkaa
