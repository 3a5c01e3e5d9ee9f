/-
  WALK: the reference of layer 49's Keep: what package policy keeps.
-/
import Derived.Test.YtfjlhcapkfcpkaaRef49
namespace Go.Proofs.Ytfjlhcapkfcpkaa
open Go.RowKit
set_option linter.unusedSimpArgs false
set_option linter.unusedVariables false

theorem keep_pick (p : Pol) (now : Int) (l : List Ref) (x : Ref) (hx : x ∈ l) (y0 : Bool) (h : y0 = (p.chk != 0 || decide (now < x.u))) :
    keepB p now l x = (y0 || (List.range 4).any fun q => pickB (perN q) (p.num q) (l.map Ref.one) x.one) := by
  subst h
  rw [Bool.eq_iff_iff, keepB_iff p now l x hx]
  simp only [Bool.or_eq_true, bne_iff_ne, decide_eq_true_eq, List.any_eq_true, List.mem_range, pickB_iff, or_assoc]

set_option maxRecDepth 100000 in
set_option maxHeartbeats 1000000 in
theorem keep49_any (p : Pol) (l : List Ref) (hok : ∀ x ∈ l, x.ok) (now : Int) (A : Option Addr) (cap : Nat) (w : World) (hr : Reads w w.heap.size 5 A l.length (l.flatMap Ref.cs)) (hfew : l.length ≤ 60) :
    Calls Try.prog 38 #[p.v, .slice A l.length cap, .int .i64 now] w fun e w' => ∃ v, e = .returned v ∧ w'.ownsRow w.heap.size 4 1 v l.length ((keepF p l now).map Value.bool) ∧ Below w.heap.size w w' := by
  obtain ⟨b0, hi0, hz0, hz1, hz2⟩ := info_parts infoBool
  go_enter Try.func38, Try.ntmps38
  have bP := Blk.new w 25 #[.int .i64 p.d, .int .i64 p.k, .int .i64 p.m, .int .i64 p.y]
  have hb0 : Below w.heap.size w (w.alloc (.cells #[.int .i64 p.d, .int .i64 p.k, .int .i64 p.m, .int .i64 p.y] 25)) := by (repeat' (first | with_reducible exact Below.refl _ _ | assumption | (with_reducible refine Below.drew ?_) | (with_reducible refine below_drewN ?_ _) | (with_reducible refine Below.alloc ?_ (by first | exact Nat.le_refl _ | (simp; done) | (simp; omega)) _) | (with_reducible refine Below.setCell ?_ (by first | exact Nat.le_refl _ | (simp; done) | (simp; omega)) _)))
  have hown0 : ((w.alloc (.cells #[.int .i64 p.d, .int .i64 p.k, .int .i64 p.m, .int .i64 p.y] 25)).alloc (.cells #[] 4)).ownsRow (w.alloc (.cells #[.int .i64 p.d, .int .i64 p.k, .int .i64 p.m, .int .i64 p.y] 25)).heap.size 4 1 (.slice (some ⟨(w.alloc (.cells #[.int .i64 p.d, .int .i64 p.k, .int .i64 p.m, .int .i64 p.y] 25)).heap.size, 0, none⟩) 0 0) 0 [] := World.ownsRow_made _ #[] 0 (Nat.le_refl _) (Nat.zero_le _) (by simp)
  rw [World.size_alloc] at hown0
  have HRD := Lib.hid hr; have HBP := Lib.hid bP; have HB0 := Lib.hid hb0; have HO0 := Lib.hid hown0
  clear hr bP hb0 hown0
  go_wp2_with fail
  go_loopw [7, 16] (fun v s wr => ∃ k : Nat, s = .int .i64 k ∧ k ≤ l.length ∧ wr.ownsRow (w.heap.size + 1) 4 1 v k (((keepF p l now).take k).map Value.bool) ∧ Below (w.heap.size + 1) (w.alloc (.cells #[.int .i64 p.d, .int .i64 p.k, .int .i64 p.m, .int .i64 p.y] 25)) wr)
    (fun _ s _ => l.length - (intOf s).toNat)
  case atStart => exact ⟨0, rfl, Nat.zero_le _, by simpa using HO0.out, (Below.refl _ _).alloc (by simp) _⟩
  case round =>
    obtain ⟨k, rfl, hk, hown, hb⟩ := hrel
    obtain ⟨Aa, ca, rfl⟩ := own_slice hown
    have hb1 := HB0.out.trans (hb.mono (by omega))
    by_cases hlt : k < l.length
    · obtain ⟨b, o, x, hA, hx, hbl, c0, c1, c2, c3, c4⟩ := (HRD.out.below hb1).ref rfl hlt
      have hxm : x ∈ l := by rw [hx]; exact List.getElem_mem _
      have hxo : x.ok := hok x hxm
      have HX := Lib.hid hx
      have bP1 := HBP.out.below (B := w.heap.size + 1) hb (by omega)
      have bP3 := bP1.alloc (.cells #[.string x.m, .int .i64 x.n, .int .i64 x.t, .string x.nm, .int .i64 x.u] 38)
      have bX3 := Blk.new wr 38 #[.string x.m, .int .i64 x.n, .int .i64 x.t, .string x.nm, .int .i64 x.u]
      have hown3 := hown.alloc (.cells #[.string x.m, .int .i64 x.n, .int .i64 x.t, .string x.nm, .int .i64 x.u] 38)
      have hbw3 := hb.alloc (by have := hb.size; simp at this ⊢; omega) (.cells #[.string x.m, .int .i64 x.n, .int .i64 x.t, .string x.nm, .int .i64 x.u] 38)
      have hpb : w.heap.size < wr.heap.size := bP1.lt
      have q0 := bP3.cell 0; have q1 := bP3.cell 1; have q2 := bP3.cell 2; have q3 := bP3.cell 3
      simp only [List.getElem?_toArray, List.getElem?_cons_zero, List.getElem?_cons_succ] at q0 q1 q2 q3
      subst hA
      clear hx bP1 hown hb
      go_wp2_with fail
      refine (check49_any p.d p.k p.m p.y _).mono ?_; rintro e w4 ⟨rfl, hb4⟩
      clear q0 q1 q2 q3 c0 c1 c2 c3 c4
      have x4 := (Blk.below bX3 hb4 bX3.lt).cell 4
      simp only [List.getElem?_toArray, List.getElem?_cons_zero, List.getElem?_cons_succ] at x4
      by_cases hch : p.chk = 0
      · have hch' : (polChk p.d p.k p.m p.y == 0) = true := by rw [beq_iff_eq]; exact hch
        have hch0 : polChk p.d p.k p.m p.y = 0 := hch
        rw [hch0]
        by_cases hu : now < x.u
        ·
          have HY0 := Lib.hid (show true = (Bool.or (p.chk != 0) (decide (now < x.u))) from by simp [hu])
          have bX4 := Blk.below bX3 hb4 bX3.lt
          have bP4 := Blk.below bP3 hb4 bP3.lt
          have hown4 := ownsRow_below hown3 hb4 (Nat.le_refl _)
          have hbw4 := hbw3.trans (hb4.mono (by have := hbw3.size; simp at this ⊢; omega))
          have hz4 := hb4.size
          have bX5 := bX4.alloc (.cells #[.int .i64 p.d, .int .i64 p.k, .int .i64 p.m, .int .i64 p.y] 3)
          have bN5 := Blk.new w4 3 #[.int .i64 p.d, .int .i64 p.k, .int .i64 p.m, .int .i64 p.y]
          have hown5 := hown4.alloc (.cells #[.int .i64 p.d, .int .i64 p.k, .int .i64 p.m, .int .i64 p.y] 3)
          have hbw5 := hbw4.alloc (by have := hbw4.size; simp at this ⊢; omega) (.cells #[.int .i64 p.d, .int .i64 p.k, .int .i64 p.m, .int .i64 p.y] 3)
          have p0 := bP4.cell 0; have p1 := bP4.cell 1; have p2 := bP4.cell 2; have p3 := bP4.cell 3
          simp only [List.getElem?_toArray, List.getElem?_cons_zero, List.getElem?_cons_succ] at p0 p1 p2 p3
          have HX5 := Lib.hid bX5; have HN5 := Lib.hid bN5; have HO5 := Lib.hid hown5; have HW5 := Lib.hid hbw5
          clear bX4 bP4 bX5 bN5 hown4 hown5 hbw4 hbw5 bX3 bP3 hown3 hbw3 hb4
          go_wp2_with fail
          clear p0 p1 p2 p3 x4
          obtain ⟨W5, hW5⟩ : ∃ W, W = w4.alloc (.cells #[.int .i64 p.d, .int .i64 p.k, .int .i64 p.m, .int .i64 p.y] 3) := ⟨_, rfl⟩
          have hs5 : W5.heap.size = w4.heap.size + 1 := by rw [hW5]; simp
          rw [← hW5] at HX5 HN5 HO5 HW5 ⊢
          clear hW5
          go_loopw [10, 39] (fun a i wv => ∃ j : Nat, i = .int .i64 j ∧ j ≤ 4 ∧ a = .bool (true || (List.range j).any fun q => pickB (perN q) (p.num q) (l.map Ref.one) x.one) ∧ Below W5.heap.size W5 wv)
            (fun _ i _ => 4 - (intOf i).toNat)
          case atStart => exact ⟨0, rfl, by omega, by simp <;> omega, Below.refl _ _⟩
          case round =>
            obtain ⟨j, rfl, hj, rfl, hb6⟩ := hrel
            by_cases hj4 : j < 4
            · have bN6 := HN5.out.below hb6 HN5.out.lt
              have bX6 := HX5.out.below hb6 HX5.out.lt
              have n0 : wr.cell? ⟨w4.heap.size, j, none⟩ = some (.int .i64 (p.num j)) := (bN6.cell j).trans (by
                rcases (show j = 0 ∨ j = 1 ∨ j = 2 ∨ j = 3 from by omega) with rfl | rfl | rfl | rfl <;> rfl)
              have x0 := bX6.cell 0; have x1 := bX6.cell 1; have x2 := bX6.cell 2; have x3 := bX6.cell 3; have x4 := bX6.cell 4
              simp only [List.getElem?_toArray, List.getElem?_cons_zero, List.getElem?_cons_succ] at x0 x1 x2 x3 x4
              have hj4' : (j : Int) < 4 := by omega
              have hsc : ((List.range (j + 1)).any fun q => pickB (perN q) (p.num q) (l.map Ref.one) x.one) = (((List.range j).any fun q => pickB (perN q) (p.num q) (l.map Ref.one) x.one) || pickB (perN j) (p.num j) (l.map Ref.one) x.one) := by
                rw [List.range_succ, List.any_append]; simp
              have HSC := Lib.hid hsc
              clear hsc bN6 bX6
              cases hbv : (true || (List.range j).any fun q => pickB (perN q) (p.num q) (l.map Ref.one) x.one) with
              | true =>
                have HBV := Lib.hid hbv
                clear hbv
                go_wp2_with fail
                go_roundw
                case rel => exact ⟨j + 1, by go_num, by omega, by rw [HSC.out, ← Bool.or_assoc, HBV.out]; rfl, hb6⟩
                case measure => simp [intOf]; omega
              | false =>
                have HBV := Lib.hid hbv
                clear hbv
                go_wp2_with fail
                refine (kept49_any l hok _ cap x hxo j hj4 (p.num j) _ ((HRD.out.below (HB0.out.trans ((HW5.out.trans (hb6.mono (by have := HW5.out.size; simp at this ⊢; omega))).mono (by omega)))).more (by have := HW5.out.size; have := hb6.size; simp at *; omega)) hfew).mono ?_; rintro e w7 ⟨rfl, hb7⟩
                have hb8 := hb6.trans (hb7.mono hb6.size)
                clear x0 x1 x2 x3 x4 n0 hb6 hb7
                generalize hpb : pickB (perN j) (p.num j) (l.map Ref.one) x.one = pb at *
                have HPB := Lib.hid hpb
                clear hpb
                go_wp2_with fail
                go_roundw
                case rel => exact ⟨j + 1, by go_num, by omega, by rw [HSC.out, ← Bool.or_assoc, HBV.out, Bool.false_or], hb8⟩
                case measure => simp [intOf]; omega
            · have hje : j = 4 := by omega
              subst hje
              have hkb : keepB p now l x = (true || (List.range 4).any fun q => pickB (perN q) (p.num q) (l.map Ref.one) x.one) := keep_pick p now l x hxm _ HY0.out
              have HKB := Lib.hid hkb
              clear hkb
              generalize hbb : (true || (List.range 4).any fun q => pickB (perN q) (p.num q) (l.map Ref.one) x.one) = bb at *
              have hown6 := ownsRow_below HO5.out hb6 (Nat.le_refl _)
              have hbw6 := HW5.out.trans (hb6.mono (by have := HW5.out.size; simp at this ⊢; omega))
              clear hbb
              go_wp2_with (at_builtin; refine wpList_append_own_at _ rfl (.tmp 53) (.tmp 55) 50 rfl (w.heap.size + 1) 4 b0 _ 1 1 Try.underlying50 hi0 hz0 hz1 hz2 rfl (by omega) _ _ _ rfl (hown6.alloc _) ⟨wr.heap.size, 0, none⟩ 1 1 [.bool bb] rfl rfl (news_at _ _ _ (by simp)) (by simp [Value.oneCell']) (by unfold maxLen; omega) (by omega) (by have := hbw6.size; simp at this ⊢; omega) ?_; intro v' w8 hown8 hgrow8 _ _)
              have hbw8 := (hbw6.alloc (by have := hbw6.size; simp at this ⊢; omega) _).grown hgrow8 (by have := hbw6.size; simp at this ⊢; omega) (fun jj hjj => (hown6.lt jj hjj).1)
              go_roundw
              case rel =>
                refine ⟨k + 1, by go_num, by omega, ?_, hbw8⟩
                rw [keepF_succ p l now k hlt, ← HX.out, HKB.out]
                exact hown8
              case measure => simp [intOf]; omega
        ·
          have HY0 := Lib.hid (show false = (Bool.or (p.chk != 0) (decide (now < x.u))) from by simp [hch]; omega)
          have bX4 := Blk.below bX3 hb4 bX3.lt
          have bP4 := Blk.below bP3 hb4 bP3.lt
          have hown4 := ownsRow_below hown3 hb4 (Nat.le_refl _)
          have hbw4 := hbw3.trans (hb4.mono (by have := hbw3.size; simp at this ⊢; omega))
          have hz4 := hb4.size
          have bX5 := bX4.alloc (.cells #[.int .i64 p.d, .int .i64 p.k, .int .i64 p.m, .int .i64 p.y] 3)
          have bN5 := Blk.new w4 3 #[.int .i64 p.d, .int .i64 p.k, .int .i64 p.m, .int .i64 p.y]
          have hown5 := hown4.alloc (.cells #[.int .i64 p.d, .int .i64 p.k, .int .i64 p.m, .int .i64 p.y] 3)
          have hbw5 := hbw4.alloc (by have := hbw4.size; simp at this ⊢; omega) (.cells #[.int .i64 p.d, .int .i64 p.k, .int .i64 p.m, .int .i64 p.y] 3)
          have p0 := bP4.cell 0; have p1 := bP4.cell 1; have p2 := bP4.cell 2; have p3 := bP4.cell 3
          simp only [List.getElem?_toArray, List.getElem?_cons_zero, List.getElem?_cons_succ] at p0 p1 p2 p3
          have HX5 := Lib.hid bX5; have HN5 := Lib.hid bN5; have HO5 := Lib.hid hown5; have HW5 := Lib.hid hbw5
          clear bX4 bP4 bX5 bN5 hown4 hown5 hbw4 hbw5 bX3 bP3 hown3 hbw3 hb4
          go_wp2_with fail
          clear p0 p1 p2 p3 x4
          obtain ⟨W5, hW5⟩ : ∃ W, W = w4.alloc (.cells #[.int .i64 p.d, .int .i64 p.k, .int .i64 p.m, .int .i64 p.y] 3) := ⟨_, rfl⟩
          have hs5 : W5.heap.size = w4.heap.size + 1 := by rw [hW5]; simp
          rw [← hW5] at HX5 HN5 HO5 HW5 ⊢
          clear hW5
          go_loopw [10, 39] (fun a i wv => ∃ j : Nat, i = .int .i64 j ∧ j ≤ 4 ∧ a = .bool (false || (List.range j).any fun q => pickB (perN q) (p.num q) (l.map Ref.one) x.one) ∧ Below W5.heap.size W5 wv)
            (fun _ i _ => 4 - (intOf i).toNat)
          case atStart => exact ⟨0, rfl, by omega, by simp <;> omega, Below.refl _ _⟩
          case round =>
            obtain ⟨j, rfl, hj, rfl, hb6⟩ := hrel
            by_cases hj4 : j < 4
            · have bN6 := HN5.out.below hb6 HN5.out.lt
              have bX6 := HX5.out.below hb6 HX5.out.lt
              have n0 : wr.cell? ⟨w4.heap.size, j, none⟩ = some (.int .i64 (p.num j)) := (bN6.cell j).trans (by
                rcases (show j = 0 ∨ j = 1 ∨ j = 2 ∨ j = 3 from by omega) with rfl | rfl | rfl | rfl <;> rfl)
              have x0 := bX6.cell 0; have x1 := bX6.cell 1; have x2 := bX6.cell 2; have x3 := bX6.cell 3; have x4 := bX6.cell 4
              simp only [List.getElem?_toArray, List.getElem?_cons_zero, List.getElem?_cons_succ] at x0 x1 x2 x3 x4
              have hj4' : (j : Int) < 4 := by omega
              have hsc : ((List.range (j + 1)).any fun q => pickB (perN q) (p.num q) (l.map Ref.one) x.one) = (((List.range j).any fun q => pickB (perN q) (p.num q) (l.map Ref.one) x.one) || pickB (perN j) (p.num j) (l.map Ref.one) x.one) := by
                rw [List.range_succ, List.any_append]; simp
              have HSC := Lib.hid hsc
              clear hsc bN6 bX6
              cases hbv : (false || (List.range j).any fun q => pickB (perN q) (p.num q) (l.map Ref.one) x.one) with
              | true =>
                have HBV := Lib.hid hbv
                clear hbv
                go_wp2_with fail
                go_roundw
                case rel => exact ⟨j + 1, by go_num, by omega, by rw [HSC.out, ← Bool.or_assoc, HBV.out]; rfl, hb6⟩
                case measure => simp [intOf]; omega
              | false =>
                have HBV := Lib.hid hbv
                clear hbv
                go_wp2_with fail
                refine (kept49_any l hok _ cap x hxo j hj4 (p.num j) _ ((HRD.out.below (HB0.out.trans ((HW5.out.trans (hb6.mono (by have := HW5.out.size; simp at this ⊢; omega))).mono (by omega)))).more (by have := HW5.out.size; have := hb6.size; simp at *; omega)) hfew).mono ?_; rintro e w7 ⟨rfl, hb7⟩
                have hb8 := hb6.trans (hb7.mono hb6.size)
                clear x0 x1 x2 x3 x4 n0 hb6 hb7
                generalize hpb : pickB (perN j) (p.num j) (l.map Ref.one) x.one = pb at *
                have HPB := Lib.hid hpb
                clear hpb
                go_wp2_with fail
                go_roundw
                case rel => exact ⟨j + 1, by go_num, by omega, by rw [HSC.out, ← Bool.or_assoc, HBV.out, Bool.false_or], hb8⟩
                case measure => simp [intOf]; omega
            · have hje : j = 4 := by omega
              subst hje
              have hkb : keepB p now l x = (false || (List.range 4).any fun q => pickB (perN q) (p.num q) (l.map Ref.one) x.one) := keep_pick p now l x hxm _ HY0.out
              have HKB := Lib.hid hkb
              clear hkb
              generalize hbb : (false || (List.range 4).any fun q => pickB (perN q) (p.num q) (l.map Ref.one) x.one) = bb at *
              have hown6 := ownsRow_below HO5.out hb6 (Nat.le_refl _)
              have hbw6 := HW5.out.trans (hb6.mono (by have := HW5.out.size; simp at this ⊢; omega))
              clear hbb
              go_wp2_with (at_builtin; refine wpList_append_own_at _ rfl (.tmp 53) (.tmp 55) 50 rfl (w.heap.size + 1) 4 b0 _ 1 1 Try.underlying50 hi0 hz0 hz1 hz2 rfl (by omega) _ _ _ rfl (hown6.alloc _) ⟨wr.heap.size, 0, none⟩ 1 1 [.bool bb] rfl rfl (news_at _ _ _ (by simp)) (by simp [Value.oneCell']) (by unfold maxLen; omega) (by omega) (by have := hbw6.size; simp at this ⊢; omega) ?_; intro v' w8 hown8 hgrow8 _ _)
              have hbw8 := (hbw6.alloc (by have := hbw6.size; simp at this ⊢; omega) _).grown hgrow8 (by have := hbw6.size; simp at this ⊢; omega) (fun jj hjj => (hown6.lt jj hjj).1)
              go_roundw
              case rel =>
                refine ⟨k + 1, by go_num, by omega, ?_, hbw8⟩
                rw [keepF_succ p l now k hlt, ← HX.out, HKB.out]
                exact hown8
              case measure => simp [intOf]; omega
      · have hch' : (polChk p.d p.k p.m p.y == 0) = false := by rw [beq_eq_false_iff_ne]; exact hch
        have HY0 := Lib.hid (show true = (Bool.or (p.chk != 0) (decide (now < x.u))) from by simp [hch])
        have bX4 := Blk.below bX3 hb4 bX3.lt
        have bP4 := Blk.below bP3 hb4 bP3.lt
        have hown4 := ownsRow_below hown3 hb4 (Nat.le_refl _)
        have hbw4 := hbw3.trans (hb4.mono (by have := hbw3.size; simp at this ⊢; omega))
        have hz4 := hb4.size
        have bX5 := bX4.alloc (.cells #[.int .i64 p.d, .int .i64 p.k, .int .i64 p.m, .int .i64 p.y] 3)
        have bN5 := Blk.new w4 3 #[.int .i64 p.d, .int .i64 p.k, .int .i64 p.m, .int .i64 p.y]
        have hown5 := hown4.alloc (.cells #[.int .i64 p.d, .int .i64 p.k, .int .i64 p.m, .int .i64 p.y] 3)
        have hbw5 := hbw4.alloc (by have := hbw4.size; simp at this ⊢; omega) (.cells #[.int .i64 p.d, .int .i64 p.k, .int .i64 p.m, .int .i64 p.y] 3)
        have p0 := bP4.cell 0; have p1 := bP4.cell 1; have p2 := bP4.cell 2; have p3 := bP4.cell 3
        simp only [List.getElem?_toArray, List.getElem?_cons_zero, List.getElem?_cons_succ] at p0 p1 p2 p3
        have HX5 := Lib.hid bX5; have HN5 := Lib.hid bN5; have HO5 := Lib.hid hown5; have HW5 := Lib.hid hbw5
        clear bX4 bP4 bX5 bN5 hown4 hown5 hbw4 hbw5 bX3 bP3 hown3 hbw3 hb4
        go_wp2_with fail
        clear p0 p1 p2 p3 x4
        obtain ⟨W5, hW5⟩ : ∃ W, W = w4.alloc (.cells #[.int .i64 p.d, .int .i64 p.k, .int .i64 p.m, .int .i64 p.y] 3) := ⟨_, rfl⟩
        have hs5 : W5.heap.size = w4.heap.size + 1 := by rw [hW5]; simp
        rw [← hW5] at HX5 HN5 HO5 HW5 ⊢
        clear hW5
        go_loopw [10, 39] (fun a i wv => ∃ j : Nat, i = .int .i64 j ∧ j ≤ 4 ∧ a = .bool (true || (List.range j).any fun q => pickB (perN q) (p.num q) (l.map Ref.one) x.one) ∧ Below W5.heap.size W5 wv)
          (fun _ i _ => 4 - (intOf i).toNat)
        case atStart => exact ⟨0, rfl, by omega, by simp <;> omega, Below.refl _ _⟩
        case round =>
          obtain ⟨j, rfl, hj, rfl, hb6⟩ := hrel
          by_cases hj4 : j < 4
          · have bN6 := HN5.out.below hb6 HN5.out.lt
            have bX6 := HX5.out.below hb6 HX5.out.lt
            have n0 : wr.cell? ⟨w4.heap.size, j, none⟩ = some (.int .i64 (p.num j)) := (bN6.cell j).trans (by
              rcases (show j = 0 ∨ j = 1 ∨ j = 2 ∨ j = 3 from by omega) with rfl | rfl | rfl | rfl <;> rfl)
            have x0 := bX6.cell 0; have x1 := bX6.cell 1; have x2 := bX6.cell 2; have x3 := bX6.cell 3; have x4 := bX6.cell 4
            simp only [List.getElem?_toArray, List.getElem?_cons_zero, List.getElem?_cons_succ] at x0 x1 x2 x3 x4
            have hj4' : (j : Int) < 4 := by omega
            have hsc : ((List.range (j + 1)).any fun q => pickB (perN q) (p.num q) (l.map Ref.one) x.one) = (((List.range j).any fun q => pickB (perN q) (p.num q) (l.map Ref.one) x.one) || pickB (perN j) (p.num j) (l.map Ref.one) x.one) := by
              rw [List.range_succ, List.any_append]; simp
            have HSC := Lib.hid hsc
            clear hsc bN6 bX6
            cases hbv : (true || (List.range j).any fun q => pickB (perN q) (p.num q) (l.map Ref.one) x.one) with
            | true =>
              have HBV := Lib.hid hbv
              clear hbv
              go_wp2_with fail
              go_roundw
              case rel => exact ⟨j + 1, by go_num, by omega, by rw [HSC.out, ← Bool.or_assoc, HBV.out]; rfl, hb6⟩
              case measure => simp [intOf]; omega
            | false =>
              have HBV := Lib.hid hbv
              clear hbv
              go_wp2_with fail
              refine (kept49_any l hok _ cap x hxo j hj4 (p.num j) _ ((HRD.out.below (HB0.out.trans ((HW5.out.trans (hb6.mono (by have := HW5.out.size; simp at this ⊢; omega))).mono (by omega)))).more (by have := HW5.out.size; have := hb6.size; simp at *; omega)) hfew).mono ?_; rintro e w7 ⟨rfl, hb7⟩
              have hb8 := hb6.trans (hb7.mono hb6.size)
              clear x0 x1 x2 x3 x4 n0 hb6 hb7
              generalize hpb : pickB (perN j) (p.num j) (l.map Ref.one) x.one = pb at *
              have HPB := Lib.hid hpb
              clear hpb
              go_wp2_with fail
              go_roundw
              case rel => exact ⟨j + 1, by go_num, by omega, by rw [HSC.out, ← Bool.or_assoc, HBV.out, Bool.false_or], hb8⟩
              case measure => simp [intOf]; omega
          · have hje : j = 4 := by omega
            subst hje
            have hkb : keepB p now l x = (true || (List.range 4).any fun q => pickB (perN q) (p.num q) (l.map Ref.one) x.one) := keep_pick p now l x hxm _ HY0.out
            have HKB := Lib.hid hkb
            clear hkb
            generalize hbb : (true || (List.range 4).any fun q => pickB (perN q) (p.num q) (l.map Ref.one) x.one) = bb at *
            have hown6 := ownsRow_below HO5.out hb6 (Nat.le_refl _)
            have hbw6 := HW5.out.trans (hb6.mono (by have := HW5.out.size; simp at this ⊢; omega))
            clear hbb
            go_wp2_with (at_builtin; refine wpList_append_own_at _ rfl (.tmp 53) (.tmp 55) 50 rfl (w.heap.size + 1) 4 b0 _ 1 1 Try.underlying50 hi0 hz0 hz1 hz2 rfl (by omega) _ _ _ rfl (hown6.alloc _) ⟨wr.heap.size, 0, none⟩ 1 1 [.bool bb] rfl rfl (news_at _ _ _ (by simp)) (by simp [Value.oneCell']) (by unfold maxLen; omega) (by omega) (by have := hbw6.size; simp at this ⊢; omega) ?_; intro v' w8 hown8 hgrow8 _ _)
            have hbw8 := (hbw6.alloc (by have := hbw6.size; simp at this ⊢; omega) _).grown hgrow8 (by have := hbw6.size; simp at this ⊢; omega) (fun jj hjj => (hown6.lt jj hjj).1)
            go_roundw
            case rel =>
              refine ⟨k + 1, by go_num, by omega, ?_, hbw8⟩
              rw [keepF_succ p l now k hlt, ← HX.out, HKB.out]
              exact hown8
            case measure => simp [intOf]; omega
    · have hke : k = l.length := by omega
      subst hke
      go_wp2_with fail
      go_ret
      refine ⟨_, rfl, ?_, hb1⟩
      rw [List.take_of_length_le (by simp [keepF])] at hown
      exact own_base hown (by omega)

end Go.Proofs.Ytfjlhcapkfcpkaa
