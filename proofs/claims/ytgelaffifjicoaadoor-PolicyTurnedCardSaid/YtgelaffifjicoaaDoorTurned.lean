/-
  PolicyTurned: the plain law and the walk.
-/
import Derived.Deep.RegionHeld3
import Derived.Test.YtgelaffifjicoaaDoorAlive49
import Derived.Test.YtgelaffifjicoaaDoorSmall
namespace Go.Proofs.YtgelaffifjicoaaDoor
open Go.RowKit
set_option linter.unusedSimpArgs false
set_option linter.unusedVariables false

/-- The order plays no part. -/
theorem keepB_same (p : Pol) (now : Int) (l l' : List Ref) (h : ∀ x, x ∈ l' ↔ x ∈ l) (x : Ref) (hx : x ∈ l) : keepB p now l' x = keepB p now l x := by
  rw [Bool.eq_iff_iff, keepB_iff p now l' x ((h x).2 hx), keepB_iff p now l x hx]
  have hm : ∀ z, z ∈ l'.map Ref.one ↔ z ∈ l.map Ref.one := by
    intro z
    simp only [List.mem_map]
    exact ⟨fun ⟨y, hy, e⟩ => ⟨y, (h y).1 hy, e⟩, fun ⟨y, hy, e⟩ => ⟨y, (h y).2 hy, e⟩⟩
  refine or_congr Iff.rfl (or_congr Iff.rfl ⟨?_, ?_⟩)
  · rintro ⟨j, hj, hp⟩; exact ⟨j, hj, picked_mono (fun z hz => (hm z).2 hz) hp⟩
  · rintro ⟨j, hj, hp⟩; exact ⟨j, hj, picked_mono (fun z hz => (hm z).1 hz) hp⟩
theorem keepF_turned (p : Pol) (l : List Ref) (now : Int) : keepF p l.reverse now = (keepF p l now).reverse := by
  unfold keepF
  rw [List.map_reverse]
  congr 1
  exact List.map_congr_left fun x hx => keepB_same p now l l.reverse (fun x => List.mem_reverse) x hx

theorem infoRefT : (Tryd.prog.info? 35).map (fun i => (i.zero, i.size, i.bytes)) = some (some (.agg #[.string ⟨#[]⟩, .int .i64 0, .int .i64 0, .string ⟨#[]⟩, .int .i64 0]), 5, 56) := by kernel_rfl
theorem keep_rev (p : Pol) (l : List Ref) (hok : ∀ x ∈ l, x.ok) (now : Int) (A : Option Addr) (cap : Nat) (w : World) (hr : Reads w w.heap.size 5 A l.length (l.reverse.flatMap Ref.cs)) (hn : l.length ≤ 60) :
    Calls Tryd.prog 12 #[p.v, .slice A l.length cap, .int .i64 now] w fun e w' => ∃ v, e = .returned v ∧ w'.ownsRow w.heap.size 4 1 v l.length ((keepF p l now).reverse.map Value.bool) ∧ Below w.heap.size w w' := by
  have h := keep_any p l.reverse (fun x hx => hok x (List.mem_reverse.1 hx)) now A cap w (by rw [List.length_reverse]; exact hr) (by rw [List.length_reverse]; exact hn)
  rw [keepF_turned, List.length_reverse] at h
  exact h

set_option maxRecDepth 100000 in
set_option maxHeartbeats 2000000 in
theorem turned_any (p : Pol) (now : Int) (l : List Ref) (A : Option Addr) (cap : Nat) (m : Int) (w : World) (hm : w.cell? ⟨0, 0, none⟩ = some (.int .i64 m)) (hr : Reads w w.heap.size 5 A l.length (l.flatMap Ref.cs)) (hok : ∀ x ∈ l, x.ok) (hlen : l.length ≤ maxLen) :
    Calls Tryd.prog 6 #[p.v, .agg #[.slice A l.length cap, .int .i64 now]] w fun e w' => e = .returned (.bool true) ∧ Below w.heap.size w w' := by
  obtain ⟨i0, hi0, hz0, hz1, hz2⟩ := info_parts infoRefT
  have hmb := World.block_lt_of_cell? w _ hm
  go_enter Tryd.func6, Tryd.ntmps6
  have bP := (Blk.new w 23 #[.int .i64 p.d, .int .i64 p.k, .int .i64 p.m, .int .i64 p.y]).alloc (.cells #[.slice A l.length cap, .int .i64 now] 27)
  have bB := Blk.new (w.alloc (.cells #[.int .i64 p.d, .int .i64 p.k, .int .i64 p.m, .int .i64 p.y] 23)) 27 #[.slice A l.length cap, .int .i64 now]
  rw [World.size_alloc] at bB
  have hb0 : Below w.heap.size w ((w.alloc (.cells #[.int .i64 p.d, .int .i64 p.k, .int .i64 p.m, .int .i64 p.y] 23)).alloc (.cells #[.slice A l.length cap, .int .i64 now] 27)) := by (repeat' (first | with_reducible exact Below.refl _ _ | assumption | (with_reducible refine Below.drew ?_) | (with_reducible refine below_drewN ?_ _) | (with_reducible refine Below.alloc ?_ (by first | exact Nat.le_refl _ | (simp; done) | (simp; omega)) _) | (with_reducible refine Below.setCell ?_ (by first | exact Nat.le_refl _ | (simp; done) | (simp; omega)) _)))
  have hm0 := (hb0.cell (p := ⟨0, 0, none⟩) hmb).trans hm
  have hz0' : w.heap.size + 1 < ((w.alloc (.cells #[.int .i64 p.d, .int .i64 p.k, .int .i64 p.m, .int .i64 p.y] 23)).alloc (.cells #[.slice A l.length cap, .int .i64 now] 27)).heap.size := by simp
  have HR := Lib.hid hr; have HP := Lib.hid bP; have HB := Lib.hid bB; have HB0 := Lib.hid hb0
  clear hr bP bB hb0 hm
  go_wp2_with fail
  refine (alive49_any m _ hm0).mono ?_; rintro e w1 ⟨rfl, hb1⟩
  have bP1 := HP.out.below hb1 (by omega); have bB1 := HB.out.below hb1 (by omega)
  have hbw1 := HB0.out.trans (hb1.mono HB0.out.size)
  have q0 := bB1.cell 0; have q1 := bB1.cell 1
  simp only [List.getElem?_toArray, List.getElem?_cons_zero, List.getElem?_cons_succ] at q0 q1
  have hzw1 : w.heap.size + 1 < w1.heap.size := bB1.lt
  have HP1 := Lib.hid bP1; have HBy1 := Lib.hid bB1; have HB1 := Lib.hid hbw1
  clear bP1 bB1 hbw1 hb1 HP HB HB0 hm0 hz0'
  go_wp2_with fail
  refine (great49_any l A cap w1 ((HR.out.below HB1.out).more HB1.out.size) hlen).mono ?_; rintro e w2 ⟨⟨v, rfl, hv⟩, hb2⟩
  have bP2 := HP1.out.below hb2 (by omega); have bB2 := HBy1.out.below hb2 (by omega)
  have hbw2 := HB1.out.trans (hb2.mono HB1.out.size)
  have hzw2 : w.heap.size + 1 < w2.heap.size := bB2.lt
  clear q0 q1 hb2 HP1 HBy1 HB1 hzw1
  have q0 := bB2.cell 0; have q1 := bB2.cell 1
  simp only [List.getElem?_toArray, List.getElem?_cons_zero, List.getElem?_cons_succ] at q0 q1
  rcases hv with rfl | ⟨rfl, hfew⟩
  · go_wp2_with fail
    go_ret
    exact ⟨rfl, hbw2⟩
  have HP2 := Lib.hid bP2; have HBy2 := Lib.hid bB2; have HB2 := Lib.hid hbw2
  clear bP2 bB2 hbw2
  have hfewI : (l.length : Int) ≤ 50 := by omega
  go_wp2_with fail
  clear q0 q1
  go_loopw [6, 23] (fun v i wr => ∃ k : Nat, i = .int .i64 k ∧ k ≤ l.length ∧ wr.ownsRow w2.heap.size 35 5 v k ((l.reverse.take k).flatMap Ref.cs) ∧ Below w2.heap.size w2 wr)
    (fun _ i _ => l.length - (intOf i).toNat)
  case atStart => exact ⟨0, rfl, Nat.zero_le _, World.ownsRow_nil _ _ _ _, Below.refl _ _⟩
  case round =>
    obtain ⟨k, rfl, hk, hown, hb⟩ := hrel
    obtain ⟨At, ct, rfl⟩ := own_slice hown
    have bB3 := HBy2.out.below hb hzw2
    have hbz := hb.size
    have q0 := bB3.cell 0; have q1 := bB3.cell 1
    simp only [List.getElem?_toArray, List.getElem?_cons_zero, List.getElem?_cons_succ] at q0 q1
    clear bB3
    by_cases hlt : k < l.length
    · have hjlt : l.length - 1 - k < l.length := by omega
      have hkI : (k : Int) < (l.length : Int) := by omega
      have hji0 : (0 : Int) ≤ (l.length : Int) - 1 - (k : Int) := by omega
      have hjiL : (l.length : Int) - 1 - (k : Int) < (l.length : Int) := by omega
      obtain ⟨b, o, x, hA, hx, hbl, d0, d1, d2, d3, d4⟩ := ((HR.out.below HB2.out).below (hb.mono HB2.out.size)).ref rfl hjlt
      have htk : l.reverse.take (k + 1) = l.reverse.take k ++ [x] := by
        rw [List.take_succ_eq_append_getElem (by rw [List.length_reverse]; exact hlt), List.getElem_reverse, hx]
      have HTK := Lib.hid htk
      have hown1 := hown.alloc (.cells x.cs.toArray 35)
      have hb1 := hb.alloc hb.size (.cells x.cs.toArray 35)
      rw [hA] at q0
      clear htk hx hA hown hb
      go_wp2_with (at_builtin; refine wpList_append_own_at _ rfl (.tmp 26) (.tmp 35) 25 rfl w2.heap.size 35 i0 _ 5 56 Tryd.underlying25 hi0 hz0 hz1 hz2 rfl (by omega) _ _ _ rfl hown1 ⟨wr.heap.size, 0, none⟩ 1 1 x.cs rfl rfl (news_cells wr x.cs _) (by simp [Ref.cs, Value.oneCell']) (by unfold maxLen; omega) (by omega) (by simp; omega) ?_; intro v' w6 hown6 hgrow6 _ _)
      have hb6 := hb1.grown hgrow6 (by simp; omega) (fun jj hjj => (hown1.lt jj hjj).1)
      go_roundw
      case rel =>
        refine ⟨k + 1, by go_num, by omega, ?_, hb6⟩
        rw [HTK.out, List.flatMap_append]; simpa using hown6
      case measure => simp [intOf]; omega
    · have hke : k = l.length := by omega
      subst hke
      rw [List.take_of_length_le (by simp)] at hown
      have bP4 := HP2.out.below hb (by omega)
      have hbw4 := HB2.out.trans (hb.mono HB2.out.size)
      have HP4 := Lib.hid bP4; have HBy4 := Lib.hid (HBy2.out.below hb hzw2); have HB4 := Lib.hid hbw4; have HO4 := Lib.hid (Reads.of_own hown)
      have hr4 := (HR.out.below hbw4).more hbw4.size
      have HR4 := Lib.hid hr4
      have hpw : w.heap.size + 1 < wr.heap.size := by omega
      clear hown hb bP4 hbw4 hr4 q0 q1
      obtain ⟨W, hW⟩ : ∃ W, W = wr := ⟨_, rfl⟩
      rw [← hW] at HP4 HBy4 HB4 HO4 HR4 hpw ⊢
      clear hW
      go_wp2_with fail
      have hS : ∀ w' : World, Below W.heap.size W w' → w'.cell? ⟨w.heap.size, 0, none⟩ = some (.int .i64 p.d) ∧ w'.cell? ⟨w.heap.size, 1, none⟩ = some (.int .i64 p.k) ∧ w'.cell? ⟨w.heap.size, 2, none⟩ = some (.int .i64 p.m) ∧ w'.cell? ⟨w.heap.size, 3, none⟩ = some (.int .i64 p.y) ∧ w'.cell? ⟨w.heap.size + 1, 0, none⟩ = some (.slice A l.length cap) ∧ w'.cell? ⟨w.heap.size + 1, 1, none⟩ = some (.int .i64 now) := by
        intro w' hb
        have bP := HP4.out.below hb (by omega)
        have bB := HBy4.out.below hb (by omega)
        exact ⟨bP.cell 0, bP.cell 1, bP.cell 2, bP.cell 3, bB.cell 0, bB.cell 1⟩
      have HSS := Lib.hid hS
      clear hS
      have hcz := Below.refl W.heap.size W
      go_region_held3 (fun w' => w'.cell? ⟨w.heap.size, 0, none⟩ = some (.int .i64 p.d) ∧ w'.cell? ⟨w.heap.size, 1, none⟩ = some (.int .i64 p.k) ∧ w'.cell? ⟨w.heap.size, 2, none⟩ = some (.int .i64 p.m) ∧ w'.cell? ⟨w.heap.size, 3, none⟩ = some (.int .i64 p.y) ∧ w'.cell? ⟨w.heap.size + 1, 0, none⟩ = some (.slice A l.length cap) ∧ w'.cell? ⟨w.heap.size + 1, 1, none⟩ = some (.int .i64 now)) (first | exact HSS.out _ hcb | exact HSS.out _ hca | exact HSS.out _ (below_like hcz))
        (first | (go_at_call 12; have hq := hca; refine (keep_rev p l hok now _ _ _ ?_ (by omega)).mono ?_; exact (HO4.out.below hca).more hca.size; rintro e wb ⟨vb, rfl, hob, hbb⟩; have hcb : Below W.heap.size W wb := hca.trans ((below_like hbb (a' := wa) (b' := wb)).mono hca.size)) | (go_at_call 12; refine (keep_any p l hok now A cap _ ?_ (by omega)).mono ?_; exact HR4.out; rintro e wa ⟨va, rfl, hoa, hba⟩; have hca : Below W.heap.size W wa := below_like hba (a' := W) (b' := wa)))
      obtain ⟨Aa, ca, rfl⟩ := own_slice hoa
      obtain ⟨Ab, cb, rfl⟩ := own_slice hob
      have HAa := Lib.hid ((Reads.of_own hoa).below (below_like hbb (a' := wa) (b' := wb))); have HAb := Lib.hid (Reads.of_own hob)
      have HBF := Lib.hid (HB4.out.trans (hcb.mono HB4.out.size)); have hzz := hbb.size
      clear hoa hob hba hbb hca hcb
      have hkl : (keepF p l now).length = l.length := by simp [keepF]
      go_wp2_with fail
      go_loopw [51] (fun i wr => ∃ k : Nat, i = .int .i64 k ∧ k ≤ l.length ∧ Below wb.heap.size wb wr) (fun i _ => l.length - (intOf i).toNat)
      case atStart => exact ⟨0, rfl, Nat.zero_le _, Below.refl _ _⟩
      case round =>
        obtain ⟨k, rfl, hk2, hbv⟩ := hrel
        by_cases hlt2 : k < l.length
        · obtain ⟨j, hj, hjl⟩ : ∃ j : Nat, (l.length : Int) - 1 - (k : Int) = (j : Int) ∧ j = l.length - 1 - k := ⟨l.length - 1 - k, by omega, rfl⟩
          have hjlt : j < l.length := by omega
          have hjI : (j : Int) < (l.length : Int) := by omega
          have hkI : (k : Int) < (l.length : Int) := by omega
          obtain ⟨b1, o1, v1, hA1, hv1, hbl1, c1⟩ := ((HAa.out.more hzz).below hbv).single hlt2
          obtain ⟨b2, o2, v2, hA2, hv2, hbl2, c2⟩ := (HAb.out.below hbv).single hjlt
          have hv12 : v1 = v2 := by
            rw [List.getElem?_map] at hv1 hv2
            rw [List.getElem?_reverse (by rw [hkl]; exact hjlt), hkl, show l.length - 1 - j = k by omega] at hv2
            rw [hv1] at hv2; injection hv2
          obtain ⟨x, hx⟩ : ∃ x, v1 = .bool x := by
            rw [List.getElem?_map] at hv1
            obtain ⟨x, _, hx⟩ := Option.map_eq_some_iff.1 hv1
            exact ⟨x, hx.symm⟩
          subst hv12 hx hA1 hA2
          have hw1' : IntKind.i64.wrap ((l.length : Int) - 1) = (l.length : Int) - 1 := by rw [IntKind.wrap_i64]; omega
          have hw2' : IntKind.i64.wrap ((l.length : Int) - 1 - (k : Int)) = (j : Int) := by rw [IntKind.wrap_i64]; omega
          have hw3' : wrap64 ((l.length : Int) - 1) = (l.length : Int) - 1 := by unfold wrap64; omega
          have hw4' : wrap64 ((l.length : Int) - 1 - (k : Int)) = (j : Int) := by unfold wrap64; omega
          have hll : ((l.length : Int) == (l.length : Int)) = true := by simp
          clear hv1 hv2 hj hjl
          cases x with
          | true =>
            go_wp2_with fail
            go_quiet (fail)
            go_wp2_with fail
            go_roundw
            case rel => exact ⟨k + 1, by go_num, by omega, below_drewN hbv _⟩
            case measure => simp [intOf]; omega
          | false =>
            go_wp2_with fail
            go_quiet (fail)
            go_wp2_with fail
            go_roundw
            case rel => exact ⟨k + 1, by go_num, by omega, below_drewN hbv _⟩
            case measure => simp [intOf]; omega
        · have hke2 : k = l.length := by omega
          subst hke2
          go_wp2_with fail
          go_ret
          exact ⟨by simp, HBF.out.trans (hbv.mono HBF.out.size)⟩

end Go.Proofs.YtgelaffifjicoaaDoor
