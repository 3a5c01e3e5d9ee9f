/-
  PolicyMore: the plain law and the walk.
-/
import Derived.Deep.RegionHeld3
import Derived.Test.YtgelaffifjicoaaDoorAlive49
import Derived.Test.YtgelaffifjicoaaDoorSmall
namespace Go.Proofs.YtgelaffifjicoaaDoor
open Go.RowKit
set_option linter.unusedSimpArgs false
set_option linter.unusedVariables false

def laterB (z y : One) : Bool := decide (z.m = y.m) && (decide (y.t < z.t) || (decide (z.t = y.t) && decide (y.n < z.n)))
theorem laterB_iff (z y : One) : laterB z y = true ↔ later z y := by
  unfold laterB later; simp
theorem picked_more {per : Int → Int} {n n' : Int} {L : List One} {y : One} (h : picked per n L y) (hn : n ≤ n') : picked per n' L y := ⟨h.1, by have := h.2; omega⟩
/-- A policy none of whose numbers is lower keeps all that the other one does. -/
theorem keep_more (p q : Pol) (now : Int) (l : List Ref) (x : Ref) (hx : x ∈ l) (hp : p.chk = 0) (hpq : ∀ j, p.num j ≤ q.num j) (h : keepB p now l x = true) : keepB q now l x = true := by
  rw [keepB_iff p now l x hx] at h
  rw [keepB_iff q now l x hx]
  rcases h with h | h | ⟨j, hj, h⟩
  · exact absurd hp h
  · exact .inr (.inl h)
  · exact .inr (.inr ⟨j, hj, picked_more h (hpq j)⟩)
/-- The latest one of a machine is kept; and what is held. -/
theorem keep_latest (p : Pol) (now : Int) (l : List Ref) (x : Ref) (hx : x ∈ l) (hp : p.chk = 0) (h : (∀ y ∈ l, laterB y.one x.one = false) ∨ now < x.u) : keepB p now l x = true := by
  rw [keepB_iff p now l x hx]
  rcases h with h | h
  · obtain ⟨j, hj, hn⟩ := chk_pos p hp
    have he : above (perN j) (l.map Ref.one) x.one = [] := by
      rw [List.eq_nil_iff_forall_not_mem]
      intro q hq
      obtain ⟨z, hz, hl, _⟩ := (above_mem _ _ _ q).1 hq
      obtain ⟨y, hy, rfl⟩ := List.mem_map.1 hz
      have := (laterB_iff _ _).2 hl
      rw [h y hy] at this
      cases this
    refine .inr (.inr ⟨j, hj, ?_, ?_⟩)
    · rw [he]; simp
    · rw [he]; simpa [distinct] using hn
  · exact .inr (.inl h)
theorem chk_in (p : Pol) (h : p.chk = 0) : (0 ≤ p.d ∧ p.d ≤ 1000) ∧ (0 ≤ p.k ∧ p.k ≤ 1000) ∧ (0 ≤ p.m ∧ p.m ≤ 1000) ∧ (0 ≤ p.y ∧ p.y ≤ 1000) := by
  unfold Pol.chk polChk at h
  split at h
  · cases h
  · omega

set_option maxRecDepth 100000 in
set_option maxHeartbeats 2000000 in
theorem more_any (p : Pol) (a0 a1 a2 a3 : Int) (h0 : 0 ≤ a0 ∧ a0 < 256) (h1 : 0 ≤ a1 ∧ a1 < 256) (h2 : 0 ≤ a2 ∧ a2 < 256) (h3 : 0 ≤ a3 ∧ a3 < 256) (now : Int) (l : List Ref) (A : Option Addr) (cap : Nat) (m : Int) (w : World) (hm : w.cell? ⟨0, 0, none⟩ = some (.int .i64 m)) (hr : Reads w w.heap.size 5 A l.length (l.flatMap Ref.cs)) (hok : ∀ x ∈ l, x.ok) (hlen : l.length ≤ maxLen) :
    Calls Tryd.prog 3 #[p.v, .agg #[.int .u8 a0, .int .u8 a1, .int .u8 a2, .int .u8 a3], .agg #[.slice A l.length cap, .int .i64 now]] w fun e w' => e = .returned (.bool true) ∧ Below w.heap.size w w' := by
  have hmb := World.block_lt_of_cell? w _ hm
  have hbq : ∀ (w : World) (a b c d : Int), (Instr.build 23 #[(0, .int .i64 a), (1, .int .i64 b), (2, .int .i64 c), (3, .int .i64 d)]).run Tryd.prog w = .ok (.agg #[.int .i64 a, .int .i64 b, .int .i64 c, .int .i64 d]) w := fun w a b c d => run_build w 23 _ _ (by kernel_rfl)
  go_enter Tryd.func3, Tryd.ntmps3
  have HR := Lib.hid hr
  have bP := ((Blk.new w 23 #[.int .i64 p.d, .int .i64 p.k, .int .i64 p.m, .int .i64 p.y]).alloc (.cells #[.int .u8 a0, .int .u8 a1, .int .u8 a2, .int .u8 a3] 24)).alloc (.cells #[.slice A l.length cap, .int .i64 now] 27)
  have bM := (Blk.new (w.alloc (.cells #[.int .i64 p.d, .int .i64 p.k, .int .i64 p.m, .int .i64 p.y] 23)) 24 #[.int .u8 a0, .int .u8 a1, .int .u8 a2, .int .u8 a3]).alloc (.cells #[.slice A l.length cap, .int .i64 now] 27)
  have bB := Blk.new ((w.alloc (.cells #[.int .i64 p.d, .int .i64 p.k, .int .i64 p.m, .int .i64 p.y] 23)).alloc (.cells #[.int .u8 a0, .int .u8 a1, .int .u8 a2, .int .u8 a3] 24)) 27 #[.slice A l.length cap, .int .i64 now]
  simp only [World.size_alloc] at bM bB
  have hb0 : Below w.heap.size w (((w.alloc (.cells #[.int .i64 p.d, .int .i64 p.k, .int .i64 p.m, .int .i64 p.y] 23)).alloc (.cells #[.int .u8 a0, .int .u8 a1, .int .u8 a2, .int .u8 a3] 24)).alloc (.cells #[.slice A l.length cap, .int .i64 now] 27)) := by (repeat' (first | with_reducible exact Below.refl _ _ | assumption | (with_reducible refine Below.drew ?_) | (with_reducible refine below_drewN ?_ _) | (with_reducible refine Below.alloc ?_ (by first | exact Nat.le_refl _ | (simp; done) | (simp; omega)) _) | (with_reducible refine Below.setCell ?_ (by first | exact Nat.le_refl _ | (simp; done) | (simp; omega)) _)))
  have hm0 := (hb0.cell (p := ⟨0, 0, none⟩) hmb).trans hm
  have hzz : w.heap.size + 1 + 1 < (((w.alloc (.cells #[.int .i64 p.d, .int .i64 p.k, .int .i64 p.m, .int .i64 p.y] 23)).alloc (.cells #[.int .u8 a0, .int .u8 a1, .int .u8 a2, .int .u8 a3] 24)).alloc (.cells #[.slice A l.length cap, .int .i64 now] 27)).heap.size := by simp
  have HP := Lib.hid bP; have HM := Lib.hid bM; have HB := Lib.hid bB; have HB0 := Lib.hid hb0
  clear hr bP bM bB hb0 hm
  go_wp2_with fail
  refine (alive49_any m _ hm0).mono ?_; rintro e w1 ⟨rfl, hb1⟩
  have bP1 := HP.out.below hb1 (by omega); have bM1 := HM.out.below hb1 (by omega); have bB1 := HB.out.below hb1 (by omega)
  have hbw1 := HB0.out.trans (hb1.mono HB0.out.size)
  have q0 := bB1.cell 0; have q1 := bB1.cell 1
  simp only [List.getElem?_toArray, List.getElem?_cons_zero, List.getElem?_cons_succ] at q0 q1
  have hzw1 : w.heap.size + 1 + 1 < w1.heap.size := bB1.lt
  have HP1 := Lib.hid bP1; have HM1 := Lib.hid bM1; have HBy1 := Lib.hid bB1; have HB1 := Lib.hid hbw1
  clear bP1 bM1 bB1 hbw1 hb1 HP HM HB HB0 hm0 hzz
  go_wp2_with fail
  refine (great49_any l A cap w1 ((HR.out.below HB1.out).more HB1.out.size) hlen).mono ?_; rintro e w2 ⟨⟨v, rfl, hv⟩, hb2⟩
  have bP2 := HP1.out.below hb2 (by omega); have bM2 := HM1.out.below hb2 (by omega); have bB2 := HBy1.out.below hb2 (by omega)
  have hbw2 := HB1.out.trans (hb2.mono HB1.out.size)
  have hzw2 : w.heap.size + 1 + 1 < w2.heap.size := bB2.lt
  clear q0 q1 hb2 HP1 HM1 HBy1 HB1 hzw1
  have p0 := bP2.cell 0; have p1 := bP2.cell 1; have p2 := bP2.cell 2; have p3 := bP2.cell 3
  simp only [List.getElem?_toArray, List.getElem?_cons_zero, List.getElem?_cons_succ] at p0 p1 p2 p3
  rcases hv with rfl | ⟨rfl, hfew⟩
  · go_wp2_with fail
    go_ret
    exact ⟨rfl, hbw2⟩
  have HP2 := Lib.hid bP2; have HM2 := Lib.hid bM2; have HBy2 := Lib.hid bB2; have HB2 := Lib.hid hbw2
  clear bP2 bM2 bB2 hbw2
  go_wp2_with fail
  refine (check_any p.d p.k p.m p.y w2).mono ?_; rintro e w3 ⟨rfl, hb3⟩
  have bP3 := HP2.out.below hb3 (by omega); have bM3 := HM2.out.below hb3 (by omega); have bB3 := HBy2.out.below hb3 (by omega)
  have hbw3 := HB2.out.trans (hb3.mono HB2.out.size)
  have hzw3 : w.heap.size + 1 + 1 < w3.heap.size := bB3.lt
  clear p0 p1 p2 p3 hb3 HP2 HM2 HBy2 HB2 hzw2
  by_cases hch : p.chk = 0
  · have hch' : polChk p.d p.k p.m p.y = 0 := hch
    rw [hch']
    obtain ⟨⟨pd0, pd1⟩, ⟨pk0, pk1⟩, ⟨pm0, pm1⟩, ⟨py0, py1⟩⟩ := chk_in p hch
    obtain ⟨h00, h01⟩ := h0; obtain ⟨h10, h11⟩ := h1; obtain ⟨h20, h21⟩ := h2; obtain ⟨h30, h31⟩ := h3
    have p0 := bP3.cell 0; have p1 := bP3.cell 1; have p2 := bP3.cell 2; have p3 := bP3.cell 3
    have m0 := bM3.cell 0; have m1 := bM3.cell 1; have m2 := bM3.cell 2; have m3 := bM3.cell 3
    simp only [List.getElem?_toArray, List.getElem?_cons_zero, List.getElem?_cons_succ] at p0 p1 p2 p3 m0 m1 m2 m3
    have HP3 := Lib.hid bP3; have HM3 := Lib.hid bM3; have HBy3 := Lib.hid bB3; have HB3 := Lib.hid hbw3; have HCH := Lib.hid hch
    clear bP3 bM3 bB3 hbw3 hch hch'
    go_wp2_with fail
    obtain ⟨q, hq⟩ : ∃ q : Pol, q = ⟨min 1000 (p.d + a0), min 1000 (p.k + a1), min 1000 (p.m + a2), min 1000 (p.y + a3)⟩ := ⟨_, rfl⟩
    have hqd : min 1000 (p.d + a0) = q.d := by rw [hq]
    have hqk : min 1000 (p.k + a1) = q.k := by rw [hq]
    have hqm : min 1000 (p.m + a2) = q.m := by rw [hq]
    have hqy : min 1000 (p.y + a3) = q.y := by rw [hq]
    have hpq : ∀ j, p.num j ≤ q.num j := by
      intro j
      rcases j with _ | _ | _ | j
      · show p.d ≤ q.d; omega
      · show p.k ≤ q.k; omega
      · show p.m ≤ q.m; omega
      · show p.y ≤ q.y; omega
    rw [hqd, hqk, hqm, hqy]
    have HPQ := Lib.hid hpq
    clear hq hpq hqd hqk hqm hqy p0 p1 p2 p3 m0 m1 m2 m3
    have hbw4 := HB3.out.alloc HB3.out.size (.cells #[.int .i64 q.d, .int .i64 q.k, .int .i64 q.m, .int .i64 q.y] 23)
    have bP4 := HP3.out.alloc (.cells #[.int .i64 q.d, .int .i64 q.k, .int .i64 q.m, .int .i64 q.y] 23); have bB4 := HBy3.out.alloc (.cells #[.int .i64 q.d, .int .i64 q.k, .int .i64 q.m, .int .i64 q.y] 23)
    have bQ4 := Blk.new w3 23 #[.int .i64 q.d, .int .i64 q.k, .int .i64 q.m, .int .i64 q.y]
    have hr4 := (HR.out.below hbw4).more hbw4.size
    obtain ⟨W, hW⟩ : ∃ W, W = w3.alloc (.cells #[.int .i64 q.d, .int .i64 q.k, .int .i64 q.m, .int .i64 q.y] 23) := ⟨_, rfl⟩
    have hsW : w3.heap.size < W.heap.size := by rw [hW]; simp
    rw [← hW] at hbw4 bP4 bB4 bQ4 hr4 ⊢
    have HP4 := Lib.hid bP4; have HBy4 := Lib.hid bB4; have HQ4 := Lib.hid bQ4; have HR4 := Lib.hid hr4; have HB4 := Lib.hid hbw4
    clear hW bP4 bB4 bQ4 hr4 hbw4 HP3 HM3 HBy3 HB3
    have hS : ∀ w' : World, Below W.heap.size W w' → w'.cell? ⟨w.heap.size, 0, none⟩ = some (.int .i64 p.d) ∧ w'.cell? ⟨w.heap.size, 1, none⟩ = some (.int .i64 p.k) ∧ w'.cell? ⟨w.heap.size, 2, none⟩ = some (.int .i64 p.m) ∧ w'.cell? ⟨w.heap.size, 3, none⟩ = some (.int .i64 p.y) ∧ w'.cell? ⟨w3.heap.size, 0, none⟩ = some (.int .i64 q.d) ∧ w'.cell? ⟨w3.heap.size, 1, none⟩ = some (.int .i64 q.k) ∧ w'.cell? ⟨w3.heap.size, 2, none⟩ = some (.int .i64 q.m) ∧ w'.cell? ⟨w3.heap.size, 3, none⟩ = some (.int .i64 q.y) ∧ w'.cell? ⟨w.heap.size + 1 + 1, 0, none⟩ = some (.slice A l.length cap) ∧ w'.cell? ⟨w.heap.size + 1 + 1, 1, none⟩ = some (.int .i64 now) := by
      intro w' hb
      have bP := HP4.out.below hb (by omega)
      have bQ := HQ4.out.below hb (by omega)
      have bB := HBy4.out.below hb (by omega)
      exact ⟨bP.cell 0, bP.cell 1, bP.cell 2, bP.cell 3, bQ.cell 0, bQ.cell 1, bQ.cell 2, bQ.cell 3, bB.cell 0, bB.cell 1⟩
    have HSS := Lib.hid hS
    clear hS
    have hcz := Below.refl W.heap.size W
    go_region_held3 (fun w' => w'.cell? ⟨w.heap.size, 0, none⟩ = some (.int .i64 p.d) ∧ w'.cell? ⟨w.heap.size, 1, none⟩ = some (.int .i64 p.k) ∧ w'.cell? ⟨w.heap.size, 2, none⟩ = some (.int .i64 p.m) ∧ w'.cell? ⟨w.heap.size, 3, none⟩ = some (.int .i64 p.y) ∧ w'.cell? ⟨w3.heap.size, 0, none⟩ = some (.int .i64 q.d) ∧ w'.cell? ⟨w3.heap.size, 1, none⟩ = some (.int .i64 q.k) ∧ w'.cell? ⟨w3.heap.size, 2, none⟩ = some (.int .i64 q.m) ∧ w'.cell? ⟨w3.heap.size, 3, none⟩ = some (.int .i64 q.y) ∧ w'.cell? ⟨w.heap.size + 1 + 1, 0, none⟩ = some (.slice A l.length cap) ∧ w'.cell? ⟨w.heap.size + 1 + 1, 1, none⟩ = some (.int .i64 now)) (first | exact HSS.out _ hcb | exact HSS.out _ hca | exact HSS.out _ (below_like hcz))
      (first | (go_at_call 12; have hqq := hca; refine (keep_any q l hok now A cap _ ?_ (by omega)).mono ?_; exact (HR4.out.below hca).more hca.size; rintro e wb ⟨vb, rfl, hob, hbb⟩; have hcb : Below W.heap.size W wb := hca.trans ((below_like hbb (a' := wa) (b' := wb)).mono hca.size)) | (go_at_call 12; refine (keep_any p l hok now A cap _ ?_ (by omega)).mono ?_; exact HR4.out; rintro e wa ⟨va, rfl, hoa, hba⟩; have hca : Below W.heap.size W wa := below_like hba (a' := W) (b' := wa)))
    obtain ⟨Aa, ca, rfl⟩ := own_slice hoa
    obtain ⟨Ab, cb, rfl⟩ := own_slice hob
    have HAa := Lib.hid ((Reads.of_own hoa).below (below_like hbb (a' := wa) (b' := wb))); have HAb := Lib.hid (Reads.of_own hob)
    have HBF := Lib.hid (HB4.out.trans (hcb.mono HB4.out.size)); have hzz := hbb.size
    have bB5 := HBy4.out.below hcb (by omega)
    have HBy5 := Lib.hid bB5
    have HR5 := Lib.hid ((HR4.out.below hcb).more hcb.size)
    have hzB : w.heap.size + 1 + 1 < wb.heap.size := bB5.lt
    have q0 := bB5.cell 0
    simp only [List.getElem?_toArray, List.getElem?_cons_zero] at q0
    clear hoa hob hba hbb hca hcb HP4 HBy4 HQ4 HR4 HB4 HSS bB5
    have hkl : (keepF p l now).length = l.length := by simp [keepF]
    go_wp2_with fail
    clear q0
    go_loopw [84] (fun i wr => ∃ k : Nat, i = .int .i64 k ∧ k ≤ l.length ∧ Below wb.heap.size wb wr) (fun i _ => l.length - (intOf i).toNat)
    case atStart => exact ⟨0, rfl, Nat.zero_le _, Below.refl _ _⟩
    case round =>
      obtain ⟨k, rfl, hk, hb⟩ := hrel
      by_cases hlt : k < l.length
      · obtain ⟨b, o, x, hA, hx, hbl, d0, d1, d2, d3, d4⟩ := (HR5.out.below hb).ref rfl hlt
        have hxm : x ∈ l := by rw [hx]; exact List.getElem_mem _
        have HXX := Lib.hid hx
        have bX := Blk.new wr 35 #[.string x.m, .int .i64 x.n, .int .i64 x.t, .string x.nm, .int .i64 x.u]
        have hbX := hb.alloc hb.size (.cells #[.string x.m, .int .i64 x.n, .int .i64 x.t, .string x.nm, .int .i64 x.u] 35)
        have bB6 := HBy5.out.below hb hzB
        have q0 := bB6.cell 0
        simp only [List.getElem?_toArray, List.getElem?_cons_zero] at q0
        have hzr : w.heap.size + 1 + 1 < wr.heap.size := bB6.lt
        have HX := Lib.hid bX; have HBX := Lib.hid hbX; have HA := Lib.hid hA
        have hkI : (k : Int) < (l.length : Int) := by omega
        obtain ⟨Wx, hWx⟩ : ∃ W, W = wr.alloc (.cells #[.string x.m, .int .i64 x.n, .int .i64 x.t, .string x.nm, .int .i64 x.u] 35) := ⟨_, rfl⟩
        clear hx bX hbX bB6 hb
        subst hA
        go_wp2_with fail
        rw [← hWx] at HX HBX ⊢
        have hxs : wr.heap.size < Wx.heap.size := by rw [hWx]; simp
        clear hWx d0 d1 d2 d3 d4 q0
        go_loopw [12, 92] (fun t z wv => ∃ j : Nat, z = .int .i64 j ∧ j ≤ l.length ∧ t = .bool ((l.take j).all fun y => !laterB y.one x.one) ∧ Below Wx.heap.size Wx wv)
          (fun _ z _ => l.length - (intOf z).toNat)
        case atStart => exact ⟨0, rfl, Nat.zero_le _, rfl, Below.refl _ _⟩
        case round =>
          obtain ⟨j, rfl, hj, rfl, hbv⟩ := hrel
          have hvs := hbv.size
          have bX7 := HX.out.below hbv hxs
          by_cases hjl : j < l.length
          · obtain ⟨b', o', y, hA', hy, hbl', e0, e1, e2, e3, e4⟩ := (HR5.out.below (HBX.out.trans (hbv.mono HBX.out.size))).ref rfl hjl
            obtain ⟨rfl, rfl⟩ : b = b' ∧ o = o' := by simpa using hA'
            have hjI : (j : Int) < (l.length : Int) := by omega
            have x0 := bX7.cell 0; have x1 := bX7.cell 1; have x2 := bX7.cell 2
            simp only [List.getElem?_toArray, List.getElem?_cons_zero, List.getElem?_cons_succ] at x0 x1 x2
            have hxw := bX7.lt
            have hbv2 := hbv.alloc hvs (.cells #[.string y.m, .int .i64 y.n, .int .i64 y.t, .string y.nm, .int .i64 y.u] 35)
            have htk : ((l.take (j + 1)).all fun y => !laterB y.one x.one) = (((l.take j).all fun y => !laterB y.one x.one) && !laterB y.one x.one) := by
              rw [List.take_succ_eq_append_getElem hjl, List.all_append, hy]; simp
            have HT := Lib.hid htk
            clear htk hy hA' bX7
            cases hbb : (l.take j).all fun y => !laterB y.one x.one with
            | false =>
              have HBB := Lib.hid hbb
              clear hbb
              go_wp2_with fail
              go_roundw
              case rel => exact ⟨j + 1, by go_num, by omega, by rw [HT.out, HBB.out]; rfl, hbv2⟩
              case measure => simp [intOf]; omega
            | true =>
              have HBB := Lib.hid hbb
              clear hbb
              by_cases hm : y.m = x.m
              · have e1' : (y.m.toList == x.m.toList) = true := by rw [hm]; simp
                have HM := Lib.hid hm
                clear hm
                by_cases ht1 : y.t < x.t
                ·
                  have HLB := Lib.hid (show laterB y.one x.one = false from by have hm := HM.out; simp [laterB, Ref.one, hm]; omega)
                  go_wp2_with fail
                  go_roundw
                  case rel => exact ⟨j + 1, by go_num, by omega, by rw [HT.out, HBB.out, HLB.out]; rfl, hbv2⟩
                  case measure => simp [intOf]; omega
                · by_cases ht2 : y.t = x.t
                  · have ht2' : (y.t == x.t) = true := by simp [ht2]
                    have HT2 := Lib.hid ht2
                    clear ht2
                    by_cases hn : y.n ≤ x.n
                    ·
                      have HLB := Lib.hid (show laterB y.one x.one = false from by have hm := HM.out; have ht2 := HT2.out; simp [laterB, Ref.one, hm]; omega)
                      go_wp2_with fail
                      go_roundw
                      case rel => exact ⟨j + 1, by go_num, by omega, by rw [HT.out, HBB.out, HLB.out]; rfl, hbv2⟩
                      case measure => simp [intOf]; omega
                    ·
                      have HLB := Lib.hid (show laterB y.one x.one = true from by have hm := HM.out; have ht2 := HT2.out; simp [laterB, Ref.one, hm]; omega)
                      go_wp2_with fail
                      go_roundw
                      case rel => exact ⟨j + 1, by go_num, by omega, by rw [HT.out, HBB.out, HLB.out]; rfl, hbv2⟩
                      case measure => simp [intOf]; omega
                  ·
                    have HLB := Lib.hid (show laterB y.one x.one = true from by have hm := HM.out; simp [laterB, Ref.one, hm]; omega)
                    go_wp2_with fail
                    go_roundw
                    case rel => exact ⟨j + 1, by go_num, by omega, by rw [HT.out, HBB.out, HLB.out]; rfl, hbv2⟩
                    case measure => simp [intOf]; omega
              · have e1' := toList_ne hm
                have HM := Lib.hid hm
                clear hm
                have HLB := Lib.hid (show laterB y.one x.one = false from by have hm := HM.out; simp [laterB, Ref.one, hm])
                go_wp2_with fail
                go_roundw
                case rel => exact ⟨j + 1, by go_num, by omega, by rw [HT.out, HBB.out, HLB.out]; rfl, hbv2⟩
                case measure => simp [intOf]; omega
          · have hje : j = l.length := by omega
            subst hje
            rw [List.take_length]
            obtain ⟨b1, o1, v1, hA1, hv1, hbl1, c1⟩ := ((HAa.out.more hzz).below (HBX.out.trans (hbv.mono HBX.out.size))).single hlt
            obtain ⟨b2, o2, v2, hA2, hv2, hbl2, c2⟩ := (HAb.out.below (HBX.out.trans (hbv.mono HBX.out.size))).single hlt
            obtain rfl : v1 = .bool (keepB p now l x) := by
              rw [List.getElem?_map, keepF, List.getElem?_map, List.getElem?_eq_getElem hlt, ← HXX.out] at hv1
              simpa using hv1.symm
            obtain rfl : v2 = .bool (keepB q now l x) := by
              rw [List.getElem?_map, keepF, List.getElem?_map, List.getElem?_eq_getElem hlt, ← HXX.out] at hv2
              simpa using hv2.symm
            have hmore := keep_more p q now l x hxm HCH.out HPQ.out
            have hlat := keep_latest p now l x hxm HCH.out
            have x4 := bX7.cell 4
            have bB7 := HBy5.out.below (HBX.out.trans (hbv.mono HBX.out.size)) hzB
            have q1 := bB7.cell 1
            simp only [List.getElem?_toArray, List.getElem?_cons_zero, List.getElem?_cons_succ] at x4 q1
            have hfin := HBX.out.trans (hbv.mono HBX.out.size)
            have HFIN := Lib.hid hfin
            have hall : (l.all fun y => !laterB y.one x.one) = true → ∀ y ∈ l, laterB y.one x.one = false := by
              intro h y hy
              have := List.all_eq_true.1 h y hy
              simpa using this
            subst hA1 hA2
            clear hv1 hv2 bX7 bB7 hfin
            cases hka : keepB p now l x with
            | true =>
              have hkb := hmore hka
              rw [hka] at c1
              rw [hkb] at c2
              generalize (l.all fun y => !laterB y.one x.one) = bb at *
              clear hmore hlat hall hka hkb
              go_wp2_with fail
              all_goals
                go_roundw
                case rel => exact ⟨k + 1, by go_num, by omega, HFIN.out⟩
                case measure => simp [intOf]; omega
            | false =>
              have hnu : ¬ now < x.u := fun c => by have := hlat (.inr c); rw [hka] at this; cases this
              have hnl : (l.all fun y => !laterB y.one x.one) = false := by
                cases hc : (l.all fun y => !laterB y.one x.one) with
                | false => rfl
                | true => have := hlat (.inl (hall hc)); rw [hka] at this; cases this
              rw [hnl]
              rw [hka] at c1
              generalize keepB q now l x = kb at *
              clear hmore hlat hall hka hnl
              go_wp2_with fail
              go_roundw
              case rel => exact ⟨k + 1, by go_num, by omega, HFIN.out⟩
              case measure => simp [intOf]; omega
      · have hke : k = l.length := by omega
        subst hke
        go_wp2_with fail
        go_ret
        exact ⟨rfl, HBF.out.trans (hb.mono HBF.out.size)⟩
  · have hch' : (polChk p.d p.k p.m p.y == 0) = false := by rw [beq_eq_false_iff_ne]; exact hch
    go_wp2_with fail
    go_ret
    exact ⟨rfl, hbw3⟩

end Go.Proofs.YtgelaffifjicoaaDoor
