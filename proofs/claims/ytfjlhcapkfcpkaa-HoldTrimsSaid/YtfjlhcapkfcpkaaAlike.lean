/-
  WALK: the law's 'alike', at two roots that share their packs and channels.
-/
import Derived.DeepKeys
import Derived.MapViews
import Derived.Deep.MidRow
import Derived.Test.YtfjlhcapkfcpkaaOpen
namespace Go.Proofs.Ytfjlhcapkfcpkaa
open Go.RowKit Go.ChangeShapes Go.WideShapes Go.Deep
set_option linter.unusedSimpArgs false
set_option linter.unusedVariables false

/-- Cells that, as a value of type t, are equal to themselves. -/
def Selfish (t : TypeId) (cs : List Value) : Prop := ∀ W : World, (binOp .neq t (.agg cs.toArray) (.agg cs.toArray)).run Try.prog W = .ok (.bool false) W
theorem selfish_of {m : Nat} (hm : m ≤ 10000) {t : TypeId} (hk : Try.prog.keyTypeAt m t = true) {cs : List Value} {la : List Lit} (hf : (Value.agg cs.toArray).formed Try.prog t = true) (h : Try.prog.keyLits m t cs = some la) : Selfish t cs := by
  intro W
  obtain ⟨r, hr, hiff⟩ := run_equalIn_deep (10000 - m) m t hk W m m (.agg cs.toArray) (.agg cs.toArray) la la hf hf h h
  rw [show 10000 - m + m = 10000 by omega] at hr
  obtain rfl : r = true := hiff.2 rfl
  rw [run_neq_struct, hr]
  rfl

/-- n elements of k cells each, of type t: what they read as plays no part. -/
def Rows1 (w : World) (B k : Nat) (t : TypeId) (A : Option Addr) (n : Nat) : Prop :=
  ∀ i, i < n → ∃ b o cs, A = some ⟨b, o, none⟩ ∧ b < B ∧ w.rangeAt b (o + i * k) cs ∧ cs.length = k ∧ Selfish t cs
theorem Rows1.below {w w' : World} {B k n : Nat} {t : TypeId} {A : Option Addr} (h : Rows1 w B k t A n) (hb : Below B w w') : Rows1 w' B k t A n := fun i hi => by
  obtain ⟨b, o, cs, hA, hB, hr, hl, hs⟩ := h i hi
  exact ⟨b, o, cs, hA, hB, fun j v hj => (hb.cell (p := ⟨b, o + i * k + j, none⟩) hB).trans (hr j v hj), hl, hs⟩
/-- Packs: of each a name and a row of places. -/
def Packs (w : World) (B : Nat) (A : Option Addr) (n : Nat) : Prop :=
  ∀ i, i < n → ∃ b o s P m c, A = some ⟨b, o, none⟩ ∧ b < B ∧ w.cell? ⟨b, o + i * 2, none⟩ = some (.string s) ∧ w.cell? ⟨b, o + i * 2 + 1, none⟩ = some (.slice P m c) ∧ Rows1 w B 3 64 P m ∧ m ≤ maxLen
theorem Packs.below {w w' : World} {B n : Nat} {A : Option Addr} (h : Packs w B A n) (hb : Below B w w') : Packs w' B A n := fun i hi => by
  obtain ⟨b, o, s, P, m, c, hA, hB, h0, h1, hr, hm⟩ := h i hi
  exact ⟨b, o, s, P, m, c, hA, hB, (hb.cell (p := ⟨b, o + i * 2, none⟩) hB).trans h0, (hb.cell (p := ⟨b, o + i * 2 + 1, none⟩) hB).trans h1, hr.below hb, hm⟩
theorem Rows1.more {w : World} {B B' k n : Nat} {t : TypeId} {A : Option Addr} (h : Rows1 w B k t A n) (hB : B ≤ B') : Rows1 w B' k t A n := fun i hi => by
  obtain ⟨b, o, cs, hA, hb, hr⟩ := h i hi
  exact ⟨b, o, cs, hA, by omega, hr⟩
theorem Packs.more {w : World} {B B' n : Nat} {A : Option Addr} (h : Packs w B A n) (hB : B ≤ B') : Packs w B' A n := fun i hi => by
  obtain ⟨b, o, s, P, m, c, hA, hb, h0, h1, hr, hm⟩ := h i hi
  exact ⟨b, o, s, P, m, c, hA, by omega, h0, h1, hr.more hB, hm⟩

section
variable {H : Type} {enc : TypeId × Value → H} {w : World} {base : Nat} {spare : Nat → Bool} {held : Bool}

theorem path_none {w : World} {a : Addr} {v : Value} (h : w.cell? (a.add 0) = some v) : ∃ b o, a = ⟨b, o, none⟩ := by
  obtain ⟨b, o, s⟩ := a
  cases s with
  | none => exact ⟨b, o, rfl⟩
  | some s =>
    have e : (⟨b, o, some s⟩ : Addr).add 0 = ⟨b, o, some s⟩ := by simp [Addr.add]
    rw [e] at h
    simp [World.cell?] at h
    split at h <;> simp at h

theorem open_rows {t e : TypeId} {m k : Nat} (ht : Try.prog.underlying t = some (.slice e)) (hk : Try.prog.keyTypeAt m e = true) (hm : m ≤ 10000) (hc : Try.prog.cellsOf e = k) (k0 : 0 < k)
    (hform : ∀ cs : List Value, cs.length = k → (Value.agg cs.toArray).formed Try.prog e = true)
    {n : Nat} {A : Option Addr} {len cap : Nat} {x : DataW H × List MemPlace} (h : DataW.trod enc Try.prog w base spare held n t [.slice A len cap] = some x) : Rows1 w w.heap.size k e A len ∧ len ≤ maxLen := by
  rcases open_slice ht h with ⟨h0, _⟩ | ⟨a, len', cap', mm, n', D, Pl, hcs, _, hl, hcm, hmm, _, hi⟩
  · simp only [List.cons.injEq, Value.slice.injEq, and_true] at h0
    obtain ⟨rfl, rfl, rfl⟩ := h0
    exact ⟨fun i hi => absurd hi (by omega), by unfold maxLen; omega⟩
  · simp only [List.cons.injEq, Value.slice.injEq, and_true] at hcs
    obtain ⟨rfl, rfl, rfl⟩ := hcs
    refine ⟨fun i hil => ?_, by omega⟩
    have hle : len ≤ mm := by rw [hmm]; split <;> omega
    obtain ⟨cs', hcell, htr⟩ := hi i (by omega)
    rw [hc] at hcell
    obtain ⟨_, hcl, hat⟩ := World.cells?_some hcell
    have hv0 : w.cell? ((a.add (i * k)).add 0) = some (cs'[0]'(by omega)) := (hat 0 k0).trans (List.getElem?_eq_getElem _)
    obtain ⟨cs0, hcell0, _⟩ := hi 0 (by omega)
    rw [hc] at hcell0
    obtain ⟨_, hcl0, hat0⟩ := World.cells?_some hcell0
    have hv1 : w.cell? ((a.add (0 * k)).add 0) = some (cs0[0]'(by omega)) := (hat0 0 k0).trans (List.getElem?_eq_getElem _)
    rw [Go.Deep.add_add, Nat.zero_mul] at hv1
    rw [Go.Deep.add_add] at hv0
    obtain ⟨b, o, rfl⟩ := path_none hv1
    refine ⟨b, o, cs', rfl, ?_, fun j v hj => ?_, hcl, selfish_of hm hk (hform cs' hcl) (keyLits_of_trod m e hk _ _ _ htr).1⟩
    · have := World.block_lt_of_cell? w _ hv0
      rwa [block_of_add] at this
    · have hjl : j < k := by rw [← hcl]; exact (List.getElem?_eq_some_iff.1 hj).1
      have := (hat j hjl).trans hj
      rw [Go.Deep.add_add, Addr.add_mid] at this
      rwa [Nat.add_assoc]
end

/-- A load of many cells in a region that draws and only reads. -/
theorem wpQuiet_load {P : Program} {ops : Array Oper} {C : World → Prop} {Q : Act → Prop} {a : Act} {o : Oper} {rest : List Oper} (hgd : o.guard = none) (ty : TypeId) (x : Operand) (ho : o.op = .load ty x)
    (b off : Nat) (hx : a.eval x = .pointer (some ⟨b, off, none⟩)) (cs : List Value) (d : TypeDesc) (hC : ∀ w, C w → w.rangeAt b off cs)
    (hu : P.underlying ty = some d) (hd : d.isRow = true) (hi : (P.info? ty).map (·.size) = some cs.length) (h : wpQuiet P ops C Q rest (a.put o.dst (.agg cs.toArray))) : wpQuiet P ops C Q (o :: rest) a := by
  have hw : Region.wanted o (yielded ops a.tmps) = true := by simp [Region.wanted, hgd]
  unfold wpQuiet
  rw [if_pos hw]
  refine ⟨.agg cs.toArray, fun w hcw => ?_, h⟩
  unfold Oper.quietAt execOp
  simp only [ho, hx, Instr.loadAt, Instr.sureAddr, Sem.run_bind, Sem.run_pure, Result.andThen_ok, run_loadVar_mid w b off ty cs d (hC w hcw) hu hd hi]
  exact ⟨rfl, rfl⟩

theorem eq_pol (p : Pol) (w : World) : (binOp .neq 25 p.v p.v).run Try.prog w = .ok (.bool false) w := by
  have u3 := Try.underlying3
  have a3 := Try.isAgg3
  have z3 := Try.sizeOf3
  have hS : Try.prog.underlying 25 = some (.struct (Try.prog.fieldsOf 25)) := by kernel_rfl
  have hp : Try.prog.stoodInHeld 25 = false := by kernel_rfl
  rw [run_neq_struct, show (10000 : Nat) = 9999 + 1 from rfl, run_equalIn_agg w 9999 25 _ _ hS hp]
  simp only [Program.fieldsOf, Try.underlying25]
  go_simp

set_option maxRecDepth 100000 in
set_option maxHeartbeats 2000000 in
theorem alike_any (n now : Int) (p : Pol) (A3 A8 Ax Ay : Option Addr) (n3 c3 n8 c8 lx cx ly cy : Nat) (w : World) (hP : Packs w w.heap.size A3 n3) (hC : Rows1 w w.heap.size 34 59 A8 n8) (hn3 : n3 ≤ maxLen) (hn8 : n8 ≤ maxLen) :
    Calls Try.prog 15 #[.agg #[.int .i64 n, .int .i64 now, .slice Ax lx cx, .slice A3 n3 c3, .int .i64 p.d, .int .i64 p.k, .int .i64 p.m, .int .i64 p.y, .slice A8 n8 c8], .agg #[.int .i64 n, .int .i64 now, .slice Ay ly cy, .slice A3 n3 c3, .int .i64 p.d, .int .i64 p.k, .int .i64 p.m, .int .i64 p.y, .slice A8 n8 c8]] w fun e w' => e = .returned (.bool true) ∧ Below w.heap.size w w' := by
  go_enter Try.func15, Try.ntmps15
  have hpol : ∀ W : World, (binOp .neq 25 (.agg #[.int .i64 p.d, .int .i64 p.k, .int .i64 p.m, .int .i64 p.y]) (.agg #[.int .i64 p.d, .int .i64 p.k, .int .i64 p.m, .int .i64 p.y])).run Try.prog W = .ok (.bool false) W := eq_pol p
  have hns : ∀ z : Int, (z == z) = true := fun z => by simp
  have bX := (Blk.new w 28 #[.int .i64 n, .int .i64 now, .slice Ax lx cx, .slice A3 n3 c3, .int .i64 p.d, .int .i64 p.k, .int .i64 p.m, .int .i64 p.y, .slice A8 n8 c8]).alloc (.cells #[.int .i64 n, .int .i64 now, .slice Ay ly cy, .slice A3 n3 c3, .int .i64 p.d, .int .i64 p.k, .int .i64 p.m, .int .i64 p.y, .slice A8 n8 c8] 28)
  have bY := Blk.new (w.alloc (.cells #[.int .i64 n, .int .i64 now, .slice Ax lx cx, .slice A3 n3 c3, .int .i64 p.d, .int .i64 p.k, .int .i64 p.m, .int .i64 p.y, .slice A8 n8 c8] 28)) 28 #[.int .i64 n, .int .i64 now, .slice Ay ly cy, .slice A3 n3 c3, .int .i64 p.d, .int .i64 p.k, .int .i64 p.m, .int .i64 p.y, .slice A8 n8 c8]
  rw [World.size_alloc] at bY
  have hb0 : Below w.heap.size w ((w.alloc (.cells #[.int .i64 n, .int .i64 now, .slice Ax lx cx, .slice A3 n3 c3, .int .i64 p.d, .int .i64 p.k, .int .i64 p.m, .int .i64 p.y, .slice A8 n8 c8] 28)).alloc (.cells #[.int .i64 n, .int .i64 now, .slice Ay ly cy, .slice A3 n3 c3, .int .i64 p.d, .int .i64 p.k, .int .i64 p.m, .int .i64 p.y, .slice A8 n8 c8] 28)) := by (repeat' (first | with_reducible exact Below.refl _ _ | assumption | (with_reducible refine Below.drew ?_) | (with_reducible refine below_drewN ?_ _) | (with_reducible refine Below.alloc ?_ (by first | exact Nat.le_refl _ | (simp; done) | (simp; omega)) _) | (with_reducible refine Below.setCell ?_ (by first | exact Nat.le_refl _ | (simp; done) | (simp; omega)) _)))
  have HP := Lib.hid hP; have HC := Lib.hid hC
  clear hP hC
  unfold maxLen at hn3 hn8
  go_wp2_with fail
  go_loopw [5] (fun i wr => ∃ k : Nat, i = .int .i64 k ∧ k ≤ n8 ∧ Blk wr w.heap.size 28 #[.int .i64 n, .int .i64 now, .slice Ax lx cx, .slice A3 n3 c3, .int .i64 p.d, .int .i64 p.k, .int .i64 p.m, .int .i64 p.y, .slice A8 n8 c8] ∧ Blk wr (w.heap.size + 1) 28 #[.int .i64 n, .int .i64 now, .slice Ay ly cy, .slice A3 n3 c3, .int .i64 p.d, .int .i64 p.k, .int .i64 p.m, .int .i64 p.y, .slice A8 n8 c8] ∧ Below w.heap.size w wr)
    (fun i _ => n8 - (intOf i).toNat)
  case atStart => exact ⟨0, rfl, Nat.zero_le _, bX, bY, hb0⟩
  case round =>
    obtain ⟨k, rfl, hk, bX, bY, hb⟩ := hrel
    have x8 := bX.cell 8; have y8 := bY.cell 8
    simp only [List.getElem?_toArray, List.getElem?_cons_zero, List.getElem?_cons_succ] at x8 y8
    by_cases hlt : k < n8
    · obtain ⟨b, o, cs, rfl, hB, hrg, hcl, hself⟩ := HC.out.below hb k hlt
      have hC : ∀ w', (∃ n, w' = wr.drewN n) → w'.rangeAt b (o + k * 34) cs := fun w' ⟨n, e⟩ => by subst e; exact hrg
      have hiz : (Try.prog.info? 59).map (·.size) = some cs.length := by rw [hcl]; kernel_rfl
      have HCH := Lib.hid hC
      clear hC
      have hsf : ∀ W : World, (binOp .neq 59 (.agg cs.toArray) (.agg cs.toArray)).run Try.prog W = .ok (.bool false) W := hself
      have hi : (k : Int) < (n8 : Int) := by omega
      have HX := Lib.hid bX; have HY := Lib.hid bY
      clear bX bY hrg hself HP HC
      go_wp2_with fail
      refine wp_region_quiet_lit (by kernel_rfl) (by kernel_rfl) ?_
      repeat (first | (refine wpQuiet_load rfl 59 (.tmp 55) rfl b (o + k * 34) rfl cs _ HCH.out Try.underlying59 rfl hiz ?_) | (refine wpQuiet_load rfl 59 (.tmp 60) rfl b (o + k * 34) rfl cs _ HCH.out Try.underlying59 rfl hiz ?_) | quiet_step (fail))
      refine wpQuiet_nil ?_
      rintro _ ⟨nq, rfl⟩
      go_wp2_with fail
      go_roundw
      case rel => exact ⟨k + 1, by go_num, by omega, HX.out.drewN _, HY.out.drewN _, below_drewN hb _⟩
      case measure => simp [intOf]; omega
    · have hke : k = n8 := by omega
      subst hke
      have HX := Lib.hid bX; have HY := Lib.hid bY; have HB := Lib.hid hb
      clear bX bY hb
      go_wp2_with fail
      go_loopw [6] (fun i wr => ∃ j : Nat, i = .int .i64 j ∧ j ≤ n3 ∧ Blk wr w.heap.size 28 #[.int .i64 n, .int .i64 now, .slice Ax lx cx, .slice A3 n3 c3, .int .i64 p.d, .int .i64 p.k, .int .i64 p.m, .int .i64 p.y, .slice A8 k c8] ∧ Blk wr (w.heap.size + 1) 28 #[.int .i64 n, .int .i64 now, .slice Ay ly cy, .slice A3 n3 c3, .int .i64 p.d, .int .i64 p.k, .int .i64 p.m, .int .i64 p.y, .slice A8 k c8] ∧ Below w.heap.size w wr)
        (fun i _ => n3 - (intOf i).toNat)
      case atStart => exact ⟨0, rfl, Nat.zero_le _, HX.out, HY.out, HB.out⟩
      case round =>
        clear HX HY HB
        obtain ⟨i, rfl, hi, bX, bY, hb⟩ := hrel
        have x3 := bX.cell 3; have y3 := bY.cell 3
        simp only [List.getElem?_toArray, List.getElem?_cons_zero, List.getElem?_cons_succ] at x3 y3
        by_cases hlt : i < n3
        · obtain ⟨b, o, s, P, m, c, hA, hB, d0, d1, hrow, hm⟩ := HP.out.below hb i hlt
          have HX := Lib.hid bX; have HY := Lib.hid bY; have HW := Lib.hid hrow; have HA := Lib.hid hA
          have hii : (i : Int) < (n3 : Int) := by omega
          have hss : (s.toList == s.toList) = true := by simp
          unfold maxLen at hm
          rw [hA] at x3 y3
          clear bX bY hrow HP HC hA
          go_wp2_with fail
          go_quiet (fail)
          go_wp2_with fail
          go_loopw [7] (fun z wr2 => ∃ j : Nat, z = .int .i64 j ∧ j ≤ m ∧ Blk wr2 w.heap.size 28 #[.int .i64 n, .int .i64 now, .slice Ax lx cx, .slice A3 n3 c3, .int .i64 p.d, .int .i64 p.k, .int .i64 p.m, .int .i64 p.y, .slice A8 k c8] ∧ Blk wr2 (w.heap.size + 1) 28 #[.int .i64 n, .int .i64 now, .slice Ay ly cy, .slice A3 n3 c3, .int .i64 p.d, .int .i64 p.k, .int .i64 p.m, .int .i64 p.y, .slice A8 k c8] ∧ Below w.heap.size w wr2 ∧ Below wr.heap.size wr wr2)
            (fun z _ => m - (intOf z).toNat)
          case atStart => exact ⟨0, rfl, Nat.zero_le _, HX.out.drewN _, HY.out.drewN _, below_drewN hb _, below_drewN (Below.refl _ _) _⟩
          case round =>
            clear x3 y3
            obtain ⟨j, rfl, hj, bX, bY, hb2, hbw⟩ := hrel
            have x3 := bX.cell 3; have y3 := bY.cell 3
            simp only [List.getElem?_toArray, List.getElem?_cons_zero, List.getElem?_cons_succ] at x3 y3
            rw [HA.out] at x3 y3
            have hbw' := hbw.mono hb.size
            have e0 := (hbw'.cell (p := ⟨b, o + i * 2, none⟩) hB).trans d0
            have e1 := (hbw'.cell (p := ⟨b, o + i * 2 + 1, none⟩) hB).trans d1
            clear HX HY
            have HX := Lib.hid bX; have HY := Lib.hid bY
            clear bX bY d0 d1
            by_cases hjl : j < m
            · obtain ⟨b', o', cs, hP', hB', hrg, hcl, hself⟩ := HW.out.below hbw' j hjl
              have hC : ∀ w', (∃ n, w' = wr.drewN n) → w'.rangeAt b' (o' + j * 3) cs := fun w' ⟨n, e⟩ => by subst e; exact hrg
              have hiz : (Try.prog.info? 64).map (·.size) = some cs.length := by rw [hcl]; kernel_rfl
              have hsf : ∀ W : World, (binOp .neq 64 (.agg cs.toArray) (.agg cs.toArray)).run Try.prog W = .ok (.bool false) W := hself
              have HCH := Lib.hid hC
              have hjj : (j : Int) < (m : Int) := by omega
              subst hP'
              clear hC hrg hself hbw'
              go_wp2_with fail
              refine wp_region_quiet_lit (by kernel_rfl) (by kernel_rfl) ?_
              repeat (first | (refine wpQuiet_load rfl 64 (.tmp 118) rfl b' (o' + j * 3) rfl cs _ HCH.out Try.underlying64 rfl hiz ?_) | (refine wpQuiet_load rfl 64 (.tmp 127) rfl b' (o' + j * 3) rfl cs _ HCH.out Try.underlying64 rfl hiz ?_) | quiet_step (fail))
              refine wpQuiet_nil ?_
              rintro _ ⟨nq, rfl⟩
              go_wp2_with fail
              go_roundw
              case rel => exact ⟨j + 1, by go_num, by omega, HX.out.drewN _, HY.out.drewN _, below_drewN hb2 _, below_drewN hbw _⟩
              case measure => simp [intOf]; omega
            · have hje : j = m := by omega
              subst hje
              clear hbw'
              go_wp2_with fail
              go_roundw
              case rel => exact ⟨i + 1, by go_num, by omega, HX.out, HY.out, hb2⟩
              case measure => simp [intOf]; omega
        · have hie : i = n3 := by omega
          subst hie
          go_wp2_with fail
          go_ret
          exact ⟨rfl, hb⟩

end Go.Proofs.Ytfjlhcapkfcpkaa
