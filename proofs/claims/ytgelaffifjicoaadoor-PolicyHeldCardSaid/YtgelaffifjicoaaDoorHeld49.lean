/-
  PolicyHeld: the plain law and the walk.
-/
import Derived.Deep.RegionHeld3
import Derived.StillTailTactics
import Derived.Test.YtgelaffifjicoaaDoorAlive49
import Derived.Test.YtgelaffifjicoaaDoorSmall
namespace Go.Proofs.YtgelaffifjicoaaDoor
open Go.RowKit
set_option linter.unusedSimpArgs false
set_option linter.unusedVariables false

theorem infoRefH : (Tryd.prog.info? 35).map (fun i => (i.zero, i.size, i.bytes)) = some (some (.agg #[.string ⟨#[]⟩, .int .i64 0, .int .i64 0, .string ⟨#[]⟩, .int .i64 0]), 5, 56) := by kernel_rfl
/-- One is held longer. -/
def held1 (l : List Ref) (i : Nat) (u : Int) : List Ref := l.modify i fun x => { x with u := u }
theorem held1_len (l : List Ref) (i : Nat) (u : Int) : (held1 l i u).length = l.length := by unfold held1; simp
theorem held1_one (l : List Ref) (i : Nat) (u : Int) : (held1 l i u).map Ref.one = l.map Ref.one := by
  unfold held1
  apply List.ext_getElem (by simp)
  intro j h1 h2
  simp only [List.getElem_map, List.getElem_modify]
  split <;> rfl
theorem held1_at (l : List Ref) (i : Nat) (u : Int) (j : Nat) (hj : j < l.length) (hj' : j < (held1 l i u).length) : (held1 l i u)[j] = if i = j then { l[j] with u := u } else l[j] := by
  simp only [held1, List.getElem_modify]
theorem held1_flat (l : List Ref) (k : Nat) (hk : k < l.length) (u : Int) : (l.flatMap Ref.cs).set (k * 5 + 4) (.int .i64 u) = (held1 l k u).flatMap Ref.cs := by
  unfold held1
  induction l generalizing k with
  | nil => simp at hk
  | cons x r ih =>
    cases k with
    | zero => simp [Ref.cs]
    | succ k =>
      have e : (k + 1) * 5 + 4 = (k * 5 + 4) + 5 := by omega
      rw [e]
      simp only [List.modify_succ_cons, List.flatMap_cons]
      rw [← ih k (by simpa using hk)]
      simp [Ref.cs]
theorem keepB_held (p : Pol) (now : Int) (l : List Ref) (i : Nat) (u : Int) (x : Ref) : keepB p now (held1 l i u) x = keepB p now l x := by
  unfold keepB; rw [held1_one]
theorem keepB_now (p : Pol) (now d : Int) (hd : 0 ≤ d) (l : List Ref) (x : Ref) (h : keepB p (now + d) l x = true) : keepB p now l x = true := by
  unfold keepB at h ⊢
  simp only [Bool.or_eq_true, bne_iff_ne, decide_eq_true_eq] at h ⊢
  rcases h with (h | h) | h
  · exact .inl (.inl h)
  · exact .inl (.inr (by omega))
  · exact .inr h
theorem held1_ok (l : List Ref) (i : Nat) (u : Int) (hu : okI u) (h : ∀ x ∈ l, x.ok) : ∀ x ∈ held1 l i u, x.ok := by
  intro x hx
  obtain ⟨j, hj, rfl⟩ := List.getElem_of_mem hx
  rw [held1_at l i u j (by rw [held1_len] at hj; exact hj)]
  have h0 := h _ (List.getElem_mem (show j < l.length by rw [held1_len] at hj; exact hj))
  split
  · exact ⟨h0.1, h0.2.1, h0.2.2.1, h0.2.2.2.1, hu⟩
  · exact h0
theorem keep_held (p : Pol) (l : List Ref) (hok : ∀ x ∈ l, x.ok) (i : Nat) (u : Int) (hu : okI u) (now : Int) (A : Option Addr) (cap : Nat) (w : World) (hr : Reads w w.heap.size 5 A l.length ((held1 l i u).flatMap Ref.cs)) (hn : l.length ≤ 60) :
    Calls Tryd.prog 12 #[p.v, .slice A l.length cap, .int .i64 now] w fun e w' => ∃ v, e = .returned v ∧ w'.ownsRow w.heap.size 4 1 v l.length ((keepF p (held1 l i u) now).map Value.bool) ∧ Below w.heap.size w w' := by
  have hl := held1_len l i u
  have h := keep_any p (held1 l i u) (held1_ok l i u hu hok) now A cap w (by rw [hl]; exact hr) (by rw [hl]; exact hn)
  rw [hl] at h
  exact h

set_option maxRecDepth 100000 in
set_option maxHeartbeats 2000000 in
theorem held_any (p : Pol) (k : Int) (hk : 0 ≤ k ∧ k < 256) (now : Int) (hnow : okI now) (l : List Ref) (A : Option Addr) (cap : Nat) (m : Int) (w : World) (hm : w.cell? ⟨0, 0, none⟩ = some (.int .i64 m)) (hr : Reads w w.heap.size 5 A l.length (l.flatMap Ref.cs)) (hok : ∀ x ∈ l, x.ok) (hlen : l.length ≤ maxLen) :
    Calls Tryd.prog 7 #[p.v, .agg #[.slice A l.length cap, .int .i64 now], .int .u8 k] w fun e w' => e = .returned (.bool true) ∧ Below w.heap.size w w' := by
  obtain ⟨i0, hi0, hz0, hz1, hz2⟩ := info_parts infoRefH
  have hmb := World.block_lt_of_cell? w _ hm
  go_enter Tryd.func7, Tryd.ntmps7
  have bP := (Blk.new w 23 #[.int .i64 p.d, .int .i64 p.k, .int .i64 p.m, .int .i64 p.y]).alloc (.cells #[.slice A l.length cap, .int .i64 now] 27)
  have bB := Blk.new (w.alloc (.cells #[.int .i64 p.d, .int .i64 p.k, .int .i64 p.m, .int .i64 p.y] 23)) 27 #[.slice A l.length cap, .int .i64 now]
  rw [World.size_alloc] at bB
  have hb0 : Below w.heap.size w ((w.alloc (.cells #[.int .i64 p.d, .int .i64 p.k, .int .i64 p.m, .int .i64 p.y] 23)).alloc (.cells #[.slice A l.length cap, .int .i64 now] 27)) := by (repeat' (first | with_reducible exact Below.refl _ _ | assumption | (with_reducible refine Below.drew ?_) | (with_reducible refine below_drewN ?_ _) | (with_reducible refine Below.alloc ?_ (by first | exact Nat.le_refl _ | (simp; done) | (simp; omega)) _) | (with_reducible refine Below.setCell ?_ (by first | exact Nat.le_refl _ | (simp; done) | (simp; omega)) _)))
  have hm0 := (hb0.cell (p := ⟨0, 0, none⟩) hmb).trans hm
  have hzz : w.heap.size + 1 < ((w.alloc (.cells #[.int .i64 p.d, .int .i64 p.k, .int .i64 p.m, .int .i64 p.y] 23)).alloc (.cells #[.slice A l.length cap, .int .i64 now] 27)).heap.size := by simp
  have HR := Lib.hid hr; have HP := Lib.hid bP; have HB := Lib.hid bB; have HB0 := Lib.hid hb0
  clear hr bP bB hb0 hm
  go_wp2_with fail
  refine (alive49_any m _ hm0).mono ?_; rintro e w1 ⟨rfl, hb1⟩
  have bP1 := HP.out.below hb1 (by omega); have bB1 := HB.out.below hb1 (by omega)
  have hbw1 := HB0.out.trans (hb1.mono HB0.out.size)
  have q0 := bB1.cell 0; have q1 := bB1.cell 1
  simp only [List.getElem?_toArray, List.getElem?_cons_zero, List.getElem?_cons_succ] at q0 q1
  have hzw1 : w.heap.size + 1 < w1.heap.size := bB1.lt
  have HP1 := Lib.hid bP1; have HBy1 := Lib.hid bB1; have HB1 := Lib.hid hbw1
  clear bP1 bB1 hbw1 hb1 HP HB HB0 hm0 hzz
  go_wp2_with fail
  refine (great49_any l A cap w1 ((HR.out.below HB1.out).more HB1.out.size) hlen).mono ?_; rintro e w2 ⟨⟨v, rfl, hv⟩, hb2⟩
  have bP2 := HP1.out.below hb2 (by omega); have bB2 := HBy1.out.below hb2 (by omega)
  have hbw2 := HB1.out.trans (hb2.mono HB1.out.size)
  have hzw2 : w.heap.size + 1 < w2.heap.size := bB2.lt
  clear q0 q1 hb2 HP1 HBy1 HB1 hzw1
  have q0 := bB2.cell 0; have q1 := bB2.cell 1
  simp only [List.getElem?_toArray, List.getElem?_cons_zero, List.getElem?_cons_succ] at q0 q1
  rcases hv with rfl | ⟨rfl, hfew⟩
  · go_wp2_with fail
    go_ret
    exact ⟨rfl, hbw2⟩
  by_cases hz : l.length = 0
  · have hz' : ((l.length : Int) == 0) = true := by simp [hz]
    have HZ := Lib.hid hz
    clear hz
    go_wp2_with fail
    go_ret
    exact ⟨rfl, hbw2⟩
  have hz' : ((l.length : Int) == 0) = false := by rw [beq_eq_false_iff_ne]; omega
  have hzi : ¬ (l.length : Int) = 0 := by omega
  by_cases hn9 : (9000000000000000000 : Int) ≤ now
  · go_wp2_with fail
    go_ret
    exact ⟨rfl, hbw2⟩
  obtain ⟨k, rfl⟩ : ∃ j : Nat, k = (j : Int) := ⟨k.toNat, by omega⟩
  have hmm : (k : Int).tmod (l.length : Int) = ((k % l.length : Nat) : Int) := by rw [Int.tmod_eq_emod_of_nonneg (by omega)]; exact (Int.natCast_emod _ _).symm
  obtain ⟨i, hi⟩ : ∃ i, i = k % l.length := ⟨_, rfl⟩
  have hil : i < l.length := by rw [hi]; exact Nat.mod_lt _ (by omega)
  rw [← hi] at hmm
  clear hi
  have hwr : IntKind.i64.wrap (k : Int) = (k : Int) := by rw [IntKind.wrap_i64]; omega
  have hilI : (i : Int) < (l.length : Int) := by omega
  have hrd2 := (HR.out.below hbw2).more hbw2.size
  obtain ⟨b, o, x, hA, hx, hbl, d0, d1, d2, d3, d4⟩ := hrd2.ref rfl hil
  have hcs : ∀ v ∈ l.flatMap Ref.cs, v.oneCell' = true := by
    intro v hv
    obtain ⟨x, _, hx⟩ := List.mem_flatMap.1 hv
    simp [Ref.cs] at hx
    rcases hx with rfl | rfl | rfl | rfl | rfl <;> rfl
  have hrd2' := hrd2
  rw [hA] at hrd2' q0
  have hrd1 := hrd2'.alloc (Nat.le_refl _) (.cells #[] 35)
  have hown0 : (w2.alloc (.cells #[] 35)).ownsRow w2.heap.size 35 5 (.slice (some ⟨w2.heap.size, 0, none⟩) 0 0) 0 [] := World.ownsRow_made w2 #[] 0 (Nat.le_refl _) (Nat.zero_le _) (by simp)
  have HP2 := Lib.hid bP2; have HBy2 := Lib.hid bB2; have HB2 := Lib.hid hbw2; have HX := Lib.hid hx; have HA := Lib.hid hA
  have HRD1 := Lib.hid hrd1; have HO0 := Lib.hid hown0; have HCS := Lib.hid hcs
  clear bP2 bB2 hbw2 hrd2 hrd2' hrd1 hown0 hcs hx hA d0 d1 d2 d3 d4
  go_wp2_with (at_builtin; refine wpList_append_any _ rfl (.tmp 36) (.tmp 38) 25 rfl w2.heap.size 35 i0 _ 5 56 Tryd.underlying25 hi0 hz0 hz1 hz2 rfl (by decide) _ _ _ rfl HO0.out w2.heap.size (some ⟨b, o, none⟩) l.length cap (l.flatMap Ref.cs) rfl HRD1.out HCS.out (by unfold maxLen; omega) (by omega) (by simp) ?_; intro v' w3 hown hgrow _)
  rw [Nat.zero_add, List.nil_append] at hown
  obtain ⟨g, cap', rfl, hgb, hgl'⟩ := hown.form (by omega)
  have hb3 := ((Below.refl _ w2).alloc (Nat.le_refl _) (.cells #[] 35)).grown hgrow (by simp) (fun k hk => by (cases hk <;> exact Nat.le_refl _))
  have bP3 := HP2.out.below hb3 (by omega); have bB3 := HBy2.out.below hb3 hzw2
  have hbw3 := HB2.out.trans (hb3.mono HB2.out.size)
  have hgl := hown.lt g rfl
  have c4 : w3.cell? ⟨g, i * 5 + 4, none⟩ = some (.int .i64 x.u) := by
    rw [hown.cellAt _ (by omega), HX.out]
    exact flat_at Ref.cs 5 (fun _ => rfl) l i 4 hil (by omega)
  have f4 := hown.frozenAt (i * 5 + 4)
  have q1 := bB3.cell 1
  simp only [List.getElem?_toArray, List.getElem?_cons_zero, List.getElem?_cons_succ] at q1
  have hmx : wrap64 (now + 1) = now + 1 := by have := hnow.1; unfold wrap64; omega
  have hmx2 : IntKind.i64.wrap (now + 1) = now + 1 := by have := hnow.1; rw [IntKind.wrap_i64]; omega
  have hgw : g < w3.heap.size := by omega
  have hbg : w.heap.size + 1 ≠ g := by omega
  have HP3 := Lib.hid bP3; have HBy3 := Lib.hid bB3; have HB3 := Lib.hid hbw3; have HO3 := Lib.hid hown; have HB23 := Lib.hid hb3
  clear hgrow hb3 bP3 bB3 hbw3 hown HP2 HBy2 HRD1 HO0 HCS hgl q0
  go_region
  obtain ⟨u, hu⟩ : ∃ u, u = max x.u (now + 1) := ⟨_, rfl⟩
  rw [← hu]
  have hou : okI u := by
    have hxo := hok x (by rw [HX.out]; exact List.getElem_mem _)
    obtain ⟨_, _, _, _, h1, h2⟩ := hxo
    have h3 := hnow.1
    rw [hu]; unfold okI; omega
  have hnu : now < u := by rw [hu]; omega
  obtain ⟨W, hW⟩ : ∃ W, W = (w3.setCell ⟨g, i * 5 + 4, none⟩ (.int .i64 u)).drew := ⟨_, rfl⟩
  have hWs : w3.heap.size = W.heap.size := by rw [hW]; simp
  have hoW : W.ownsRow w2.heap.size 35 5 (.slice (some ⟨g, 0, none⟩) l.length cap') l.length ((held1 l i u).flatMap Ref.cs) := by
    have h := (HO3.out.stored (i * 5 + 4) (.int .i64 u)).1
    rw [held1_flat l i hil u] at h
    rw [hW]; exact h
  have bP4 : Blk W w.heap.size 23 #[.int .i64 p.d, .int .i64 p.k, .int .i64 p.m, .int .i64 p.y] := by rw [hW]; exact HP3.out.far (p := ⟨g, i * 5 + 4, none⟩) (show w.heap.size ≠ g by omega) _
  have bB4 : Blk W (w.heap.size + 1) 27 #[.slice A l.length cap, .int .i64 now] := by rw [hW]; exact HBy3.out.far (p := ⟨g, i * 5 + 4, none⟩) (show w.heap.size + 1 ≠ g by omega) _
  have hb24 : Below w2.heap.size w2 W := by rw [hW]; exact (HB23.out.setCell (p := ⟨g, i * 5 + 4, none⟩) (by show w2.heap.size ≤ g; omega) _).drew
  have hbW : Below w.heap.size w W := HB2.out.trans (hb24.mono HB2.out.size)
  have hrW := (HR.out.below hbW).more hbW.size
  have hzW : w.heap.size + 1 < W.heap.size := bB4.lt
  rw [← hW]
  have HP4 := Lib.hid bP4; have HBy4 := Lib.hid bB4; have HR4 := Lib.hid hrW; have HB4 := Lib.hid hbW; have HO4 := Lib.hid (Reads.of_own hoW); have HOU := Lib.hid hou
  clear hu hW hWs hoW bP4 bB4 hb24 hbW hrW HP3 HBy3 HB3 HO3 HB23 HB2 c4 f4 q1 hou
  have hw1 : IntKind.i64.wrap (now + 100000) = now + 100000 := by have := hnow.1; rw [IntKind.wrap_i64]; omega
  have hw2 : wrap64 (now + 100000) = now + 100000 := by have := hnow.1; unfold wrap64; omega
  go_wp2_with fail
  have hS : ∀ w' : World, Below W.heap.size W w' → w'.cell? ⟨w.heap.size, 0, none⟩ = some (.int .i64 p.d) ∧ w'.cell? ⟨w.heap.size, 1, none⟩ = some (.int .i64 p.k) ∧ w'.cell? ⟨w.heap.size, 2, none⟩ = some (.int .i64 p.m) ∧ w'.cell? ⟨w.heap.size, 3, none⟩ = some (.int .i64 p.y) ∧ w'.cell? ⟨w.heap.size + 1, 0, none⟩ = some (.slice A l.length cap) ∧ w'.cell? ⟨w.heap.size + 1, 1, none⟩ = some (.int .i64 now) := by
    intro w' hb
    have bP := HP4.out.below hb (by omega)
    have bB := HBy4.out.below hb (by omega)
    exact ⟨bP.cell 0, bP.cell 1, bP.cell 2, bP.cell 3, bB.cell 0, bB.cell 1⟩
  have HSS := Lib.hid hS
  clear hS
  have hcz := Below.refl W.heap.size W
  go_region_held3 (fun w' => w'.cell? ⟨w.heap.size, 0, none⟩ = some (.int .i64 p.d) ∧ w'.cell? ⟨w.heap.size, 1, none⟩ = some (.int .i64 p.k) ∧ w'.cell? ⟨w.heap.size, 2, none⟩ = some (.int .i64 p.m) ∧ w'.cell? ⟨w.heap.size, 3, none⟩ = some (.int .i64 p.y) ∧ w'.cell? ⟨w.heap.size + 1, 0, none⟩ = some (.slice A l.length cap) ∧ w'.cell? ⟨w.heap.size + 1, 1, none⟩ = some (.int .i64 now)) (first | exact HSS.out _ hcc | exact HSS.out _ hcb | exact HSS.out _ hca | exact HSS.out _ (below_like hcz))
    (first | (go_at_call 12; have hqq := hcb; refine (keep_any p l hok (now + 100000) A cap _ ?_ (by omega)).mono ?_; exact (HR4.out.below hcb).more hcb.size; rintro e wc ⟨vc, rfl, hoc, hbc⟩; have hcc : Below W.heap.size W wc := hcb.trans ((below_like hbc (a' := wb) (b' := wc)).mono hcb.size)) | (go_at_call 12; have hqq := hca; refine (keep_held p l hok i u HOU.out now _ _ _ ?_ (by omega)).mono ?_; exact (HO4.out.below hca).more hca.size; rintro e wb ⟨vb, rfl, hob, hbb⟩; have hcb : Below W.heap.size W wb := hca.trans ((below_like hbb (a' := wa) (b' := wb)).mono hca.size)) | (go_at_call 12; refine (keep_any p l hok now A cap _ ?_ (by omega)).mono ?_; exact HR4.out; rintro e wa ⟨va, rfl, hoa, hba⟩; have hca : Below W.heap.size W wa := below_like hba (a' := W) (b' := wa)))
  obtain ⟨Aa, ca, rfl⟩ := own_slice hoa
  obtain ⟨Ab, cb, rfl⟩ := own_slice hob
  obtain ⟨Ac, cc, rfl⟩ := own_slice hoc
  have hbcL := below_like hbc (a' := wb) (b' := wc)
  have HAa := Lib.hid ((((Reads.of_own hoa).below (below_like hbb (a' := wa) (b' := wb))).more hbb.size).below hbcL |>.more hbcL.size); have HAb := Lib.hid (((Reads.of_own hob).below hbcL).more hbcL.size); have HAc := Lib.hid (Reads.of_own hoc)
  have HBF := Lib.hid (HB4.out.trans (hcc.mono HB4.out.size))
  have hli : (held1 l i u)[i]'(by rw [held1_len]; exact hil) = { l[i] with u := u } := by rw [held1_at l i u i hil, if_pos rfl]
  have hbi : keepB p now (held1 l i u) { l[i] with u := u } = true := by unfold keepB; simp [hnu]
  obtain ⟨b2, o2, v2, hA2, hv2, hbl2, c2⟩ := HAb.out.single hil
  obtain rfl : v2 = .bool true := by
    rw [List.getElem?_map, keepF, List.getElem?_map, List.getElem?_eq_getElem (by rw [held1_len]; exact hil), hli] at hv2
    simp only [Option.map_some, hbi, Option.some.injEq] at hv2
    exact hv2.symm
  have HA2 := Lib.hid hA2
  rw [hA2]
  clear hoa hob hoc hba hbb hbc hbcL hca hcb hcc hli hbi hv2 hA2 HP4 HBy4 HR4 HB4 HO4 HSS
  go_wp2_with fail
  go_loopw [99] (fun j wr => ∃ n : Nat, j = .int .i64 n ∧ n ≤ l.length ∧ Below wc.heap.size wc wr) (fun j _ => l.length - (intOf j).toNat)
  case atStart => exact ⟨0, rfl, Nat.zero_le _, Below.refl _ _⟩
  case round =>
    obtain ⟨n, rfl, hn, hb⟩ := hrel
    by_cases hlt : n < l.length
    · obtain ⟨e1, f1, v1, hA1, hv1, hbl1, c1⟩ := (HAa.out.below hb).single hlt
      obtain ⟨e3, f3, v3, hA3, hv3, hbl3, c3⟩ := (HAb.out.below hb).single hlt
      obtain ⟨e4, f4, v4, hA4, hv4, hbl4, c4⟩ := (HAc.out.below hb).single hlt
      have hA5 := HA2.out.symm.trans hA3
      obtain ⟨rfl, rfl⟩ : b2 = e3 ∧ o2 = f3 := by simpa using hA5
      have hkk : l[n]? = some l[n] := List.getElem?_eq_getElem hlt
      obtain rfl : v1 = .bool (keepB p now l l[n]) := by
        rw [List.getElem?_map, keepF, List.getElem?_map, hkk] at hv1
        simpa using hv1.symm
      obtain rfl : v4 = .bool (keepB p (now + 100000) l l[n]) := by
        rw [List.getElem?_map, keepF, List.getElem?_map, hkk] at hv4
        simpa using hv4.symm
      have hlt' : n < (held1 l i u).length := by rw [held1_len]; exact hlt
      obtain rfl : v3 = .bool (keepB p now (held1 l i u) (held1 l i u)[n]) := by
        rw [List.getElem?_map, keepF, List.getElem?_map, List.getElem?_eq_getElem hlt'] at hv3
        simpa using hv3.symm
      have hca := keepB_now p now 100000 (by omega) l l[n]
      have hat := held1_at l i u n hlt hlt'
      rw [hat, keepB_held] at c3
      have hnI : (n : Int) < (l.length : Int) := by omega
      subst hA1 hA4
      have HB := Lib.hid hb
      have hex : ∀ a b c : Bool, (n = i → b = true) → (n ≠ i → b = a) → (c = true → a = true) → ((n = i ∧ b = true) ∨ (n ≠ i ∧ b = a)) ∧ ((a = true ∧ c = true) ∨ (a = true ∧ c = false) ∨ (a = false ∧ c = false)) := by
        intro a b c h1 h2 h3
        by_cases hni : n = i
        · cases a <;> cases c <;> simp_all
        · cases a <;> cases c <;> simp_all
      have hall := hex (keepB p now l l[n]) (keepB p now l (if i = n then { l[n] with u := u } else l[n])) (keepB p (now + 100000) l l[n])
        (fun h => by rw [if_pos h.symm]; unfold keepB; simp [hnu]) (fun h => by rw [if_neg (Ne.symm h)]) hca
      generalize hga : keepB p now l l[n] = ka at *
      generalize hgb : keepB p now l (if i = n then { l[n] with u := u } else l[n]) = kb at *
      generalize hgc : keepB p (now + 100000) l l[n] = kc at *
      clear hv1 hv3 hv4 hA3 hA5 hb hat hex hga hgb hgc hkk hca
      obtain ⟨⟨hni, rfl⟩ | ⟨hni, rfl⟩, ⟨rfl, rfl⟩ | ⟨rfl, rfl⟩ | ⟨rfl, rfl⟩⟩ := hall
      all_goals
        first | subst hni | (have hnb : ((n : Int) == (i : Int)) = false := (by rw [beq_eq_false_iff_ne]; omega); have hnd : ((n : Int) != (i : Int)) = true := (by rw [bne_iff_ne]; omega); have hne : ¬ (n : Int) = (i : Int) := (by omega); have hnf : (n == i) = false := (by rw [beq_eq_false_iff_ne]; exact hni); have hnh : decide (n = i) = false := decide_eq_false hni; have hng : decide ((n : Int) = (i : Int)) = false := decide_eq_false hne)
        go_wp2_with fail
        go_quiet (fail)
        go_wp2_with fail
        go_roundw
        case rel => exact ⟨n + 1, by go_num, by omega, below_drewN HB.out _⟩
        case measure => simp [intOf]; omega
    · have hke : n = l.length := by omega
      subst hke
      go_wp2_with fail
      go_ret
      exact ⟨rfl, HBF.out.trans (hb.mono HBF.out.size)⟩

end Go.Proofs.YtgelaffifjicoaaDoor
