/-
  HoldStays: the walk.
-/
import Derived.Test.YtfjlhcapkfcpkaaPlain
import Derived.Test.YtfjlhcapkfcpkaaOpen
namespace Go.Proofs.Ytfjlhcapkfcpkaa
open Go.RowKit
set_option linter.unusedSimpArgs false
set_option linter.unusedVariables false

theorem field_refs (W : World) (c0 c1 c2 c3 c4 c5 c6 c7 c8 : Value) : (Instr.field 28 (.agg #[c0, c1, c2, c3, c4, c5, c6, c7, c8]) 2).run Try.prog W = .ok c2 W := by
  kernel_rfl

set_option maxRecDepth 100000 in
set_option maxHeartbeats 4000000 in
theorem stays_any (r : Root) (w : World) (hr : Reads w w.heap.size 5 r.A r.refs.length (r.refs.flatMap Ref.cs)) (hok : ∀ x ∈ r.refs, x.ok) (hlen : r.refs.length ≤ maxLen) :
    Calls Try.prog 7 #[r.v] w fun e w' => e = .returned (.bool true) ∧ Below w.heap.size w w' := by
  go_enter Try.func7, Try.ntmps7
  have bR := Blk.new w 28 #[.int .i64 r.n, .int .i64 r.now, .slice r.A r.refs.length r.cap, .slice r.A3 r.n3 r.c3, .int .i64 r.pol.d, .int .i64 r.pol.k, .int .i64 r.pol.m, .int .i64 r.pol.y, .slice r.A8 r.n8 r.c8]
  have hb0 : Below w.heap.size w (w.alloc (.cells #[.int .i64 r.n, .int .i64 r.now, .slice r.A r.refs.length r.cap, .slice r.A3 r.n3 r.c3, .int .i64 r.pol.d, .int .i64 r.pol.k, .int .i64 r.pol.m, .int .i64 r.pol.y, .slice r.A8 r.n8 r.c8] 28)) := (Below.refl _ _).alloc (Nat.le_refl _) _
  have HRD := Lib.hid hr
  clear hr
  go_wp2_with fail
  refine (alive_any _).mono ?_; rintro e w1 ⟨rfl, hb1⟩
  have bR1 := bR.below hb1 (by simp)
  have hb1' := hb0.trans (hb1.mono hb0.size)
  clear bR hb0 hb1
  have c2 := bR1.cell 2
  simp only [List.getElem?_toArray, List.getElem?_cons_zero, List.getElem?_cons_succ] at c2
  go_wp2_with fail
  refine (great_any r.refs r.A r.cap _ ((HRD.out.below hb1').more hb1'.size) hlen).mono ?_; rintro e w2 ⟨⟨v, rfl, hv⟩, hb2⟩
  have bR2 := bR1.below hb2 bR1.lt
  have hb2' := hb1'.trans (hb2.mono hb1'.size)
  clear bR1 hb1' hb2 c2
  have r0 := bR2.cell 0; have r1 := bR2.cell 1; have r2 := bR2.cell 2; have r3 := bR2.cell 3; have r4 := bR2.cell 4; have r5 := bR2.cell 5; have r6 := bR2.cell 6; have r7 := bR2.cell 7; have r8 := bR2.cell 8
  simp only [List.getElem?_toArray, List.getElem?_cons_zero, List.getElem?_cons_succ] at r0 r1 r2 r3 r4 r5 r6 r7 r8
  rcases hv with rfl | ⟨rfl, hfew⟩
  · go_wp2_with fail
    go_ret
    exact ⟨rfl, hb2'⟩
  have HB2 := Lib.hid hb2'; have HR2 := Lib.hid bR2
  clear hb2' bR2
  go_wp2_with fail
  refine (gone_any r w2 ⟨(HRD.out.below HB2.out).more HB2.out.size, hok, hfew⟩).mono ?_
  rintro e w3 ⟨v, rfl, ho, hb3⟩
  obtain ⟨Ag, cg, rfl⟩ := own_slice ho
  have HB3 := Lib.hid (HB2.out.trans (hb3.mono HB2.out.size))
  have HR3 := Lib.hid (HR2.out.below hb3 HR2.out.lt)
  have HG := Lib.hid (Reads.of_own ho)
  have hgl : r.gone.length ≤ 60 := by have := stay_gone_len r; omega
  clear r0 r1 r2 r3 r4 r5 r6 r7 r8 ho hb3 HB2 HR2
  go_wp2_with fail
  go_loopw [4] (fun i wr => ∃ k : Nat, i = .int .i64 k ∧ k ≤ r.gone.length ∧ Below w3.heap.size w3 wr)
    (fun i _ => r.gone.length - (intOf i).toNat)
  case atStart => exact ⟨0, rfl, Nat.zero_le _, Below.refl _ _⟩
  case round =>
    obtain ⟨k, rfl, hk, hb⟩ := hrel
    have bR4 := HR3.out.below hb HR3.out.lt
    by_cases hlt : k < r.gone.length
    · obtain ⟨b, o, x, hA, hx, hbl, d0, d1, d2, d3, d4⟩ := (HG.out.below hb).ref rfl hlt
      have hnh : decide (r.now < x.u) = false := decide_eq_false (gone_free r (by rw [hx]; exact List.getElem_mem _))
      have c1 := bR4.cell 1
      simp only [List.getElem?_toArray, List.getElem?_cons_zero, List.getElem?_cons_succ] at c1
      have hi : (k : Int) < (r.gone.length : Int) := by omega
      subst hA
      clear hx bR4
      go_wp2_with fail
      refine wp_region_still_tail 6 (by kernel_rfl) (by kernel_rfl) ?_
      simp only [List.take_succ_cons, List.take_zero, List.drop_succ_cons, List.drop_zero]
      change wpStill _ _ (World.drew _) (fun a' => wpList _ _ _ _ a' (World.drew _)) _ _
      repeat still_step
      refine wpStill_nil ?_
      go_wp2_with fail
      refine (held_any x r.now _).mono ?_; rintro e w5 ⟨rfl, hb5⟩
      rw [hnh]
      go_wp2_with fail
      go_roundw
      case rel => exact ⟨k + 1, by go_num, by omega, hb.drew.trans (hb5.mono (by simpa using hb.size))⟩
      case measure => simp [intOf]; omega
    · have hke : k = r.gone.length := by omega
      subst hke
      have r0 := bR4.cell 0; have r1 := bR4.cell 1; have r2 := bR4.cell 2; have r3 := bR4.cell 3; have r4 := bR4.cell 4; have r5 := bR4.cell 5; have r6 := bR4.cell 6; have r7 := bR4.cell 7; have r8 := bR4.cell 8
      simp only [List.getElem?_toArray, List.getElem?_cons_zero, List.getElem?_cons_succ] at r0 r1 r2 r3 r4 r5 r6 r7 r8
      have HB4 := Lib.hid (HB3.out.trans (hb.mono HB3.out.size)); have HR4 := Lib.hid bR4
      clear bR4 hb HB3 HR3 HG
      go_wp2_with fail
      refine (trim_any r _ ⟨(HRD.out.below HB4.out).more HB4.out.size, hok, hfew⟩).mono ?_
      rintro e w5 ⟨A2, cap2, rfl, ho5, hb5⟩
      have HB5 := Lib.hid (HB4.out.trans (hb5.mono HB4.out.size))
      have HR5 := Lib.hid (HR4.out.below hb5 HR4.out.lt)
      have HL := Lib.hid (Reads.of_own ho5)
      clear r0 r1 r2 r3 r4 r5 r6 r7 r8 HB4 HR4 ho5 hb5
      have hsg := stay_gone_len r
      have hne : ((r.stay.length : Int) + (r.gone.length : Int) == (r.refs.length : Int)) = true := by rw [beq_iff_eq]; omega
      have hwr : IntKind.i64.wrap ((r.stay.length : Int) + (r.gone.length : Int)) = (r.refs.length : Int) := by rw [IntKind.wrap_i64]; omega
      have hw64 : wrap64 ((r.stay.length : Int) + (r.gone.length : Int)) = (r.refs.length : Int) := by unfold wrap64; omega
      have heq : ((r.refs.length : Int) == (r.refs.length : Int)) = true := by simp
      have hfld : ∀ W : World, (Instr.field 28 (.agg #[.int .i64 r.n, .int .i64 r.now, .slice A2 r.stay.length cap2, .slice r.A3 r.n3 r.c3, .int .i64 r.pol.d, .int .i64 r.pol.k, .int .i64 r.pol.m, .int .i64 r.pol.y, .slice r.A8 r.n8 r.c8]) 2).run Try.prog W = .ok (.slice A2 r.stay.length cap2) W := fun W => field_refs W _ _ _ _ _ _ _ _ _
      have c2 := HR5.out.cell 2
      simp only [List.getElem?_toArray, List.getElem?_cons_zero, List.getElem?_cons_succ] at c2
      go_wp2_with fail
      clear c2
      go_loopw [6] (fun i wr => ∃ k : Nat, i = .int .i64 k ∧ k ≤ r.refs.length ∧ Below w5.heap.size w5 wr)
        (fun i _ => r.refs.length - (intOf i).toNat)
      case atStart => exact ⟨0, rfl, Nat.zero_le _, Below.refl _ _⟩
      case round =>
        obtain ⟨k, rfl, hk, hb⟩ := hrel
        have bR6 := HR5.out.below hb HR5.out.lt
        have c2 := bR6.cell 2
        simp only [List.getElem?_toArray, List.getElem?_cons_zero, List.getElem?_cons_succ] at c2
        clear bR6
        by_cases hlt : k < r.refs.length
        · have hb6 := HB5.out.trans (hb.mono HB5.out.size)
          obtain ⟨b, o, x, hA, hx, hbl, d0, d1, d2, d3, d4⟩ := HRD.out.ref rfl hlt
          have hone := stay_one r (x := x) (by rw [hx]; exact List.getElem_mem _)
          have HA := Lib.hid hA; have HONE := Lib.hid hone
          clear hx hA hone d1 d2 d3 d4
          go_wp2_with fail
          go_loopw [7, 8] (fun t z wr => ∃ j : Nat, z = .int .i64 j ∧ j ≤ r.stay.length ∧ t = .bool ((r.stay.take j).any fun y => decide (y.m = x.m)) ∧ Below w5.heap.size w5 wr)
            (fun _ z _ => r.stay.length - (intOf z).toNat)
          case atStart => exact ⟨0, rfl, Nat.zero_le _, rfl, hb⟩
          case round =>
            obtain ⟨j, rfl, hj, rfl, hb7⟩ := hrel
            have bR7 := HR5.out.below hb7 HR5.out.lt
            have c2 := bR7.cell 2
            simp only [List.getElem?_toArray, List.getElem?_cons_zero, List.getElem?_cons_succ] at c2
            rw [HA.out] at c2
            have e0 := ((HB5.out.trans (hb7.mono HB5.out.size)).cell (p := ⟨b, o + k * 5, none⟩) hbl).trans d0
            clear bR7
            by_cases hjl : j < r.stay.length
            · obtain ⟨b', o', y, hA', hy, hbl', f0, f1, f2, f3, f4⟩ := (HL.out.below hb7).ref rfl hjl
              have hji : (j : Int) < (r.stay.length : Int) := by omega
              have hki : (k : Int) < (r.refs.length : Int) := by omega
              have htk : ((r.stay.take (j + 1)).any fun y => decide (y.m = x.m)) = (((r.stay.take j).any fun y => decide (y.m = x.m)) || decide (y.m = x.m)) := by
                rw [List.take_succ_eq_append_getElem hjl, List.any_append, hy]; simp
              have HT := Lib.hid htk
              clear htk hy f1 f2 f3 f4
              subst hA'
              cases hbb : (r.stay.take j).any fun y => decide (y.m = x.m) with
              | true =>
                go_wp2_with fail
                go_quiet (fail)
                go_wp2_with fail
                go_roundw
                case rel => exact ⟨j + 1, by go_num, by omega, by rw [HT.out, hbb]; rfl, below_drewN hb7 _⟩
                case measure => simp [intOf]; omega
              | false =>
                by_cases hm : y.m = x.m
                · have e1 : (y.m.toList == x.m.toList) = true := by rw [hm]; simp
                  go_wp2_with fail
                  go_quiet (fail)
                  go_wp2_with fail
                  go_roundw
                  case rel => exact ⟨j + 1, by go_num, by omega, by rw [HT.out, hbb]; simp [hm], below_drewN hb7 _⟩
                  case measure => simp [intOf]; omega
                · have e1 := toList_ne hm
                  go_wp2_with fail
                  go_quiet (fail)
                  go_wp2_with fail
                  go_roundw
                  case rel => exact ⟨j + 1, by go_num, by omega, by rw [HT.out, hbb]; simp [hm], below_drewN hb7 _⟩
                  case measure => simp [intOf]; omega
            · have hje : j = r.stay.length := by omega
              subst hje
              have hall : ((r.stay.take r.stay.length).any fun y => decide (y.m = x.m)) = true := by
                rw [List.take_length, List.any_eq_true]
                obtain ⟨y, hy, hym⟩ := HONE.out
                exact ⟨y, hy, by simpa using hym⟩
              rw [hall]
              go_wp2_with fail
              go_roundw
              case rel => exact ⟨k + 1, by go_num, by omega, hb7⟩
              case measure => simp [intOf]; omega
        · have hke : k = r.refs.length := by omega
          subst hke
          go_wp2_with fail
          go_ret
          exact ⟨rfl, HB5.out.trans (hb.mono HB5.out.size)⟩

end Go.Proofs.Ytfjlhcapkfcpkaa
