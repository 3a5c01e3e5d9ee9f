/-
  PolicyLater: the walk.
-/
import Derived.Deep.RegionHeld3
import Derived.Test.YtgelaffifjicoaaDoorLateP
import Derived.Test.YtgelaffifjicoaaDoorReg
import Derived.Test.YtgelaffifjicoaaDoorAlive49
namespace Go.Proofs.YtgelaffifjicoaaDoor
open Go.RowKit
set_option linter.unusedSimpArgs false
set_option linter.unusedVariables false

theorem infoRefL : (Tryd.prog.info? 35).map (fun i => (i.zero, i.size, i.bytes)) = some (some (.agg #[.string ⟨#[]⟩, .int .i64 0, .int .i64 0, .string ⟨#[]⟩, .int .i64 0]), 5, 56) := by kernel_rfl
theorem keep_snoc (p : Pol) (l : List Ref) (x : Ref) (hok : ∀ y ∈ l, y.ok) (hx : x.ok) (now : Int) (A : Option Addr) (cap : Nat) (w : World) (hr : Reads w w.heap.size 5 A (l.length + 1) ((l ++ [x]).flatMap Ref.cs)) (hn : l.length ≤ 50) :
    Calls Tryd.prog 12 #[p.v, .slice A (l.length + 1 : Nat) cap, .int .i64 now] w fun e w' => ∃ v, e = .returned v ∧ w'.ownsRow w.heap.size 4 1 v (l.length + 1) ((keepF p (l ++ [x]) now).map Value.bool) ∧ Below w.heap.size w w' := by
  have hl : (l ++ [x]).length = l.length + 1 := by simp
  have h := keep_any p (l ++ [x]) (fun y hy => by rcases List.mem_append.1 hy with hy | hy; exact hok y hy; rw [List.mem_singleton.1 hy]; exact hx) now A cap w (by rw [hl]; exact hr) (by rw [hl]; omega)
  rw [hl] at h
  exact h
theorem own_base {w : World} {b b' : Nat} {e : TypeId} {size : Nat} {v : Value} {n : Nat} {xs : List Value} (h : w.ownsRow b e size v n xs) (hb : b' ≤ b) : w.ownsRow b' e size v n xs := by
  obtain ⟨h1, h⟩ := h
  refine ⟨h1, ?_⟩
  rcases h with h | ⟨g, cap, cur, h2, h3, h4⟩
  · exact .inl h
  · exact .inr ⟨g, cap, cur, h2, Nat.le_trans hb h3, h4⟩
theorem own_ne_own {w : World} {b b' : Nat} {e e' : TypeId} {sz sz' : Nat} {v v' : Value} {n n' : Nat} {xs xs' : List Value} (h : w.ownsRow b e sz v n xs) (h' : w.ownsRow b' e' sz' v' n' xs') (hne : e ≠ e') : v.ownBlock = none ∨ v.ownBlock ≠ v'.ownBlock := by
  rcases h.2 with ⟨rfl, _⟩ | ⟨g, cap, cur, rfl, _, hh, _⟩
  · exact .inl rfl
  · refine .inr fun c => ?_
    rcases h'.2 with ⟨rfl, _⟩ | ⟨g', cap', cur', rfl, _, hh', _⟩
    · simp [Value.ownBlock] at c
    · have hg : g = g' := by simpa [Value.ownBlock] using c
      subst hg
      rw [hh] at hh'
      simp at hh'
      exact hne hh'.2
/-- What is known of a slot, once its operation has come up. -/
def F0 (v : Value) (f : Bool) (s : Value) : Prop := f = true → s = v
def FO (e : TypeId) (sz B n : Nat) (xs : List Value) (f : Bool) (s : Value) (W : World) : Prop := f = true → W.ownsRow B e sz s n xs
def FB (B : Nat) (x : Ref) (f : Bool) (s : Value) (W : World) : Prop := f = true → ∃ g, B ≤ g ∧ s = .slice (some ⟨g, 0, none⟩) 1 1 ∧ Blk W g 35 #[.string x.m, .int .i64 x.n, .int .i64 x.t, .string x.nm, .int .i64 x.u]
theorem FO.below {e : TypeId} {sz B n : Nat} {xs : List Value} {f : Bool} {s : Value} {W W' : World} (h : FO e sz B n xs f s W) (hb : Below W.heap.size W W') : FO e sz B n xs f s W' := fun hf => ownsRow_below (h hf) hb (Nat.le_refl _)
theorem FB.below {B : Nat} {x : Ref} {f : Bool} {s : Value} {W W' : World} (h : FB B x f s W) (hb : Below W.heap.size W W') : FB B x f s W' := fun hf => by
  obtain ⟨g, h1, h2, h3⟩ := h hf
  exact ⟨g, h1, h2, h3.below hb h3.lt⟩
theorem FO.other {e : TypeId} {sz B n : Nat} {xs : List Value} {f : Bool} {s : Value} {W W' : World} (h : FO e sz B n xs f s W) {b' : Nat} {e' : TypeId} {sz' : Nat} {v' : Value} {n' : Nat} {xs' : List Value} (h' : W.ownsRow b' e' sz' v' n' xs') (hg : W.grownBy W' v'.ownBlock) (hne : e ≠ e') : FO e sz B n xs f s W' := fun hf =>
  (h hf).kept hg (own_ne_own (h hf) h' hne)
theorem FB.grown {B : Nat} {x : Ref} {f : Bool} {s : Value} {W W' : World} (h : FB B x f s W) {row : Option Nat} (hg : W.grownBy W' row) (hne : f = true → row ≠ s.ownBlock) : FB B x f s W' := fun hf => by
  obtain ⟨g, h1, rfl, h3⟩ := h hf
  exact ⟨g, h1, rfl, h3.grown hg (fun e => hne hf e.symm)⟩
theorem blk_news {W : World} {g : Nat} {t : TypeId} {cs : Array Value} (h : Blk W g t cs) : ∀ (j : Nat) (u : Value), cs.toList[j]? = some u → W.cell? ((⟨g, 0, none⟩ : Addr).add j) = some u := by
  intro j u hu
  have := h.cell j
  rw [show (⟨g, 0, none⟩ : Addr).add j = ⟨g, j, none⟩ by unfold Addr.add; split <;> simp_all, this]
  simpa using hu
/-- No one of its machine is as late. -/
def noneB (l : List Ref) (x : Ref) : Bool := l.all fun y => decide (y.m ≠ x.m)
theorem noneB_snoc (l : List Ref) (y x : Ref) : noneB (l ++ [y]) x = (noneB l x && decide (y.m ≠ x.m)) := by simp [noneB]

theorem own_cap {w : World} {b : Nat} {e : TypeId} {size : Nat} {A : Option Addr} {n c : Nat} {xs : List Value} (h : w.ownsRow b e size (.slice A n c) n xs) (hn : 0 < n) : n ≤ c := by
  rcases h.2 with ⟨h1, h2⟩ | ⟨g, cap, cur, h2, _, _, h3, _⟩
  · omega
  · injection h2 with _ _ h2; omega
set_option maxHeartbeats 1000000 in
/-- The law's 'same' at two rows that are one. -/
theorem same_any (xs : List Bool) (n : Nat) (hn : xs.length = n) (hn60 : n ≤ 60) (A B : Option Addr) (ca cb : Nat) (w : World) (ha : Reads w w.heap.size 1 A n (xs.map Value.bool)) (hb : Reads w w.heap.size 1 B n (xs.map Value.bool)) :
    Calls Tryd.prog 13 #[.slice A n ca, .slice B n cb] w fun e w' => e = .returned (.bool true) ∧ Below w.heap.size w w' := by
  have HA := Lib.hid ha; have HB := Lib.hid hb; have HN := Lib.hid hn
  clear ha hb hn
  have hnI : (n : Int) ≤ 60 := by omega
  go_enter Tryd.func13, Tryd.ntmps13
  go_wp2_with fail
  go_loopw [13] (fun i wr => ∃ k : Nat, i = .int .i64 k ∧ k ≤ n ∧ Below w.heap.size w wr) (fun i _ => n - (intOf i).toNat)
  case atStart => exact ⟨0, rfl, Nat.zero_le _, Below.refl _ _⟩
  case round =>
    obtain ⟨k, rfl, hk, hbv⟩ := hrel
    by_cases hlt : k < n
    · obtain ⟨b1, o1, v1, hA1, hv1, hbl1, c1⟩ := (HA.out.below hbv).single hlt
      obtain ⟨b2, o2, v2, hA2, hv2, hbl2, c2⟩ := (HB.out.below hbv).single hlt
      obtain rfl : v1 = v2 := by rw [hv1] at hv2; injection hv2
      obtain ⟨x, rfl⟩ : ∃ x, v1 = .bool x := by
        rw [List.getElem?_map] at hv1
        obtain ⟨x, _, hx⟩ := Option.map_eq_some_iff.1 hv1
        exact ⟨x, hx.symm⟩
      have hkI : (k : Int) < (n : Int) := by omega
      subst hA1 hA2
      clear hv1 hv2
      have HBV := Lib.hid hbv
      clear hbv
      cases x
      all_goals
        go_wp2_with fail
        go_quiet (fail)
        go_wp2_with fail
        go_roundw
        case rel => exact ⟨k + 1, by go_num, by omega, below_drewN HBV.out _⟩
        case measure => simp [intOf]; omega
    · have hke : k = n := by omega
      subst hke
      go_wp2_with fail
      go_ret
      exact ⟨rfl, hbv⟩

set_option maxRecDepth 100000 in
set_option maxHeartbeats 2000000 in
theorem late_any (p : Pol) (now : Int) (l : List Ref) (x : Ref) (A : Option Addr) (cap : Nat) (m : Int) (w : World) (hm : w.cell? ⟨0, 0, none⟩ = some (.int .i64 m)) (hr : Reads w w.heap.size 5 A l.length (l.flatMap Ref.cs)) (hok : ∀ x ∈ l, x.ok) (hlen : l.length ≤ maxLen) (hxo : x.ok) :
    Calls Tryd.prog 5 #[p.v, .agg #[.slice A l.length cap, .int .i64 now], x.v] w fun e w' => e = .returned (.bool true) ∧ Below w.heap.size w w' := by
  obtain ⟨i0, hi0, hz0, hz1, hz2⟩ := info_parts infoRefL
  have hmb := World.block_lt_of_cell? w _ hm
  go_enter Tryd.func5, Tryd.ntmps5
  have bP := ((Blk.new w 23 #[.int .i64 p.d, .int .i64 p.k, .int .i64 p.m, .int .i64 p.y]).alloc (.cells #[.slice A l.length cap, .int .i64 now] 27)).alloc (.cells #[.string x.m, .int .i64 x.n, .int .i64 x.t, .string x.nm, .int .i64 x.u] 35)
  have bB := (Blk.new (w.alloc (.cells #[.int .i64 p.d, .int .i64 p.k, .int .i64 p.m, .int .i64 p.y] 23)) 27 #[.slice A l.length cap, .int .i64 now]).alloc (.cells #[.string x.m, .int .i64 x.n, .int .i64 x.t, .string x.nm, .int .i64 x.u] 35)
  have bX := Blk.new ((w.alloc (.cells #[.int .i64 p.d, .int .i64 p.k, .int .i64 p.m, .int .i64 p.y] 23)).alloc (.cells #[.slice A l.length cap, .int .i64 now] 27)) 35 #[.string x.m, .int .i64 x.n, .int .i64 x.t, .string x.nm, .int .i64 x.u]
  simp only [World.size_alloc] at bB bX
  have hb0 : Below w.heap.size w (((w.alloc (.cells #[.int .i64 p.d, .int .i64 p.k, .int .i64 p.m, .int .i64 p.y] 23)).alloc (.cells #[.slice A l.length cap, .int .i64 now] 27)).alloc (.cells #[.string x.m, .int .i64 x.n, .int .i64 x.t, .string x.nm, .int .i64 x.u] 35)) := by (repeat' (first | with_reducible exact Below.refl _ _ | assumption | (with_reducible refine Below.drew ?_) | (with_reducible refine below_drewN ?_ _) | (with_reducible refine Below.alloc ?_ (by first | exact Nat.le_refl _ | (simp; done) | (simp; omega)) _) | (with_reducible refine Below.setCell ?_ (by first | exact Nat.le_refl _ | (simp; done) | (simp; omega)) _)))
  have hm0 := (hb0.cell (p := ⟨0, 0, none⟩) hmb).trans hm
  have hzz : w.heap.size + 1 + 1 < (((w.alloc (.cells #[.int .i64 p.d, .int .i64 p.k, .int .i64 p.m, .int .i64 p.y] 23)).alloc (.cells #[.slice A l.length cap, .int .i64 now] 27)).alloc (.cells #[.string x.m, .int .i64 x.n, .int .i64 x.t, .string x.nm, .int .i64 x.u] 35)).heap.size := by simp
  have HR := Lib.hid hr; have HP := Lib.hid bP; have HB := Lib.hid bB; have HX := Lib.hid bX; have HB0 := Lib.hid hb0
  clear hr bP bB bX hb0 hm
  go_wp2_with fail
  refine (alive49_any m _ hm0).mono ?_; rintro e w1 ⟨rfl, hb1⟩
  have bP1 := HP.out.below hb1 (by omega); have bB1 := HB.out.below hb1 (by omega); have bX1 := HX.out.below hb1 (by omega)
  have hbw1 := HB0.out.trans (hb1.mono HB0.out.size)
  have q0 := bB1.cell 0; have q1 := bB1.cell 1
  simp only [List.getElem?_toArray, List.getElem?_cons_zero, List.getElem?_cons_succ] at q0 q1
  have hzw1 : w.heap.size + 1 + 1 < w1.heap.size := bX1.lt
  have HP1 := Lib.hid bP1; have HBy1 := Lib.hid bB1; have HX1 := Lib.hid bX1; have HB1 := Lib.hid hbw1
  clear bP1 bB1 bX1 hbw1 hb1 HP HB HX HB0 hm0 hzz
  go_wp2_with fail
  refine (great49_any l A cap w1 ((HR.out.below HB1.out).more HB1.out.size) hlen).mono ?_; rintro e w2 ⟨⟨v, rfl, hv⟩, hb2⟩
  have bP2 := HP1.out.below hb2 (by omega); have bB2 := HBy1.out.below hb2 (by omega); have bX2 := HX1.out.below hb2 (by omega)
  have hbw2 := HB1.out.trans (hb2.mono HB1.out.size)
  have hzw2 : w.heap.size + 1 + 1 < w2.heap.size := bX2.lt
  clear q0 q1 hb2 HP1 HBy1 HX1 HB1 hzw1
  have q0 := bB2.cell 0; have q1 := bB2.cell 1
  have x0 := bX2.cell 0
  simp only [List.getElem?_toArray, List.getElem?_cons_zero, List.getElem?_cons_succ] at q0 q1 x0
  rcases hv with rfl | ⟨rfl, hfew⟩
  · go_wp2_with fail
    go_ret
    exact ⟨rfl, hbw2⟩
  have hxs : (x.m.size : Int) ≤ 9223372036854775807 := by have := hxo.1; unfold maxLen at this; omega
  by_cases hx1 : (100 : Int) < x.m.size
  · go_wp2_with fail
    go_ret
    exact ⟨rfl, hbw2⟩
  have hxle : (x.m.size : Int) ≤ 100 := by omega
  have HP2 := Lib.hid bP2; have HBy2 := Lib.hid bB2; have HX2 := Lib.hid bX2; have HB2 := Lib.hid hbw2
  clear bP2 bB2 bX2 hbw2
  have hfewI : (l.length : Int) ≤ 50 := by omega
  go_wp2_with fail
  clear q0 q1 x0
  go_loopw [7, 29] (fun v i wr => ∃ k : Nat, i = .int .i64 k ∧ k ≤ l.length ∧ v = .bool (noneB (l.take k) x) ∧ (∀ y ∈ l.take k, y.m = x.m → ¬ (x.t < y.t ∨ (y.t = x.t ∧ x.n ≤ y.n))) ∧ Below w2.heap.size w2 wr)
    (fun _ i _ => l.length - (intOf i).toNat)
  case atStart => exact ⟨0, rfl, Nat.zero_le _, by simp [noneB], by simp, Below.refl _ _⟩
  case round =>
    obtain ⟨k, rfl, hk, rfl, hall, hb⟩ := hrel
    have HALL := Lib.hid hall
    clear hall
    have hbz := hb.size
    by_cases hlt : k < l.length
    · have hkI : (k : Int) < (l.length : Int) := by omega
      obtain ⟨b, o, y, hA, hy, hbl, d0, d1, d2, d3, d4⟩ := ((HR.out.below HB2.out).below (hb.mono HB2.out.size)).ref rfl hlt
      have htk : l.take (k + 1) = l.take k ++ [y] := by rw [List.take_succ_eq_append_getElem hlt, hy]
      have HTK := Lib.hid htk
      have bB3 := HBy2.out.below hb (by omega); have bX3 := HX2.out.below hb (by omega)
      have q0 := bB3.cell 0
      have x0 := bX3.cell 0; have x1 := bX3.cell 1; have x2 := bX3.cell 2
      simp only [List.getElem?_toArray, List.getElem?_cons_zero, List.getElem?_cons_succ] at q0 x0 x1 x2
      have hbv := hb.alloc hbz (.cells #[.string y.m, .int .i64 y.n, .int .i64 y.t, .string y.nm, .int .i64 y.u] 35)
      have hret := HB2.out.trans (hbv.mono HB2.out.size)
      have hxw : w.heap.size + 1 + 1 < wr.heap.size := by omega
      subst hA
      clear htk hy hb bB3 bX3
      cases hnb : noneB (l.take k) x
      all_goals
        have HNB := Lib.hid hnb
        clear hnb
        by_cases hm : y.m = x.m
        · have e1 : (y.m.toList == x.m.toList) = true := by rw [hm]; simp
          have e2 : (y.m.toList != x.m.toList) = false := by rw [hm]; simp
          have HM := Lib.hid hm
          clear hm
          by_cases ht1 : x.t < y.t
          · go_wp2_with fail
            go_ret
            exact ⟨rfl, hret⟩
          · by_cases ht2 : y.t = x.t
            · have ht2' : (y.t == x.t) = true := by simp [ht2]
              have HT2 := Lib.hid ht2
              clear ht2
              by_cases hn : x.n ≤ y.n
              · go_wp2_with fail
                go_ret
                exact ⟨rfl, hret⟩
              · go_wp2_with fail
                go_roundw
                case rel => exact ⟨k + 1, by go_num, by omega, by rw [HTK.out, noneB_snoc, HNB.out]; simp [HM.out], by rw [HTK.out]; intro z hz; rcases List.mem_append.1 hz with hz | hz; exact HALL.out z hz; rw [List.mem_singleton.1 hz]; intro _; omega, hbv⟩
                case measure => simp [intOf]; omega
            · have ht2' : (y.t == x.t) = false := by simp [ht2]
              have HT2 := Lib.hid ht2
              clear ht2
              go_wp2_with fail
              go_roundw
              case rel => exact ⟨k + 1, by go_num, by omega, by rw [HTK.out, noneB_snoc, HNB.out]; simp [HM.out], by rw [HTK.out]; intro z hz; rcases List.mem_append.1 hz with hz | hz; exact HALL.out z hz; rw [List.mem_singleton.1 hz]; intro _; have := HT2.out; omega, hbv⟩
              case measure => simp [intOf]; omega
        · have e1 := toList_ne hm
          have e2 : (y.m.toList != x.m.toList) = true := by simpa [bne] using e1
          have HM := Lib.hid hm
          clear hm
          go_wp2_with fail
          go_roundw
          case rel => exact ⟨k + 1, by go_num, by omega, by rw [HTK.out, noneB_snoc, HNB.out]; simp [HM.out], by rw [HTK.out]; intro z hz; rcases List.mem_append.1 hz with hz | hz; exact HALL.out z hz; rw [List.mem_singleton.1 hz]; intro c; exact absurd c HM.out, hbv⟩
          case measure => simp [intOf]; omega
    · have hke : k = l.length := by omega
      subst hke
      rw [List.take_length]
      have hall := HALL.out
      rw [List.take_length] at hall
      have HL := Lib.hid hall
      have bB3 := HBy2.out.below hb (by omega); have bX3 := HX2.out.below hb (by omega); have bP3 := HP2.out.below hb (by omega)
      have hbw3 := HB2.out.trans (hb.mono HB2.out.size)
      have hr3 := (HR.out.below hbw3).more hbw3.size
      have q0 := bB3.cell 0
      simp only [List.getElem?_toArray, List.getElem?_cons_zero] at q0
      have hzw : w.heap.size + 1 + 1 < wr.heap.size := by omega
      have HP3 := Lib.hid bP3; have HBy3 := Lib.hid bB3; have HX3 := Lib.hid bX3; have HB3 := Lib.hid hbw3; have HR3 := Lib.hid hr3
      clear hall HALL bB3 bX3 bP3 hbw3 hr3 hb
      have hcs : ∀ v ∈ l.flatMap Ref.cs, v.oneCell' = true := by
        intro v hv
        obtain ⟨x, _, hx⟩ := List.mem_flatMap.1 hv
        simp [Ref.cs] at hx
        rcases hx with rfl | rfl | rfl | rfl | rfl <;> rfl
      have HCS := Lib.hid hcs
      clear hcs
      generalize hal : noneB l x = alone at *
      have HAL := Lib.hid hal
      clear hal
      go_wp2_with fail
      clear q0
      -- REGION 13 (by gen_late.py)
      refine wp_region_inv (by kernel_rfl) (fun L a W => ∃ s10 s11 s68 s69 s70 s71 s72 s73 s74 s75 s76 s77 s78 s79 s80 s81 s82 s83 s84, a = { tmps := #[p.v, .agg #[.slice A l.length cap, .int .i64 now], x.v, .pointer (some ⟨w.heap.size, 0, none⟩), .pointer (some ⟨w.heap.size + 1, 0, none⟩), .pointer (some ⟨w.heap.size + 1 + 1, 0, none⟩), u6, .bool alone, undef, u9, s10, s11, undef, undef, .bool true, .bool false, .pointer (some ⟨w.heap.size + 1, 0, none⟩), .slice A l.length cap, .int .i64 0, .bool false, .bool false, .pointer (some ⟨w.heap.size + 1 + 1, 0, none⟩), .string x.m, .int .i64 x.m.size, .bool (decide ((100 : Int) < x.m.size)), .bool (decide ((100 : Int) < x.m.size)), .pointer (some ⟨w.heap.size + 1, 0, none⟩), .slice A l.length cap, .int .i64 l.length, .int .i64 l.length, .bool false, u31, u32, u33, u34, u35, u36, u37, u38, u39, u40, u41, u42, u43, u44, u45, u46, u47, u48, u49, u50, u51, u52, u53, u54, u55, u56, u57, u58, u59, u60, u61, u62, u63, u64, u65, u66, u67, s68, s69, s70, s71, s72, s73, s74, s75, s76, s77, s78, s79, s80, s81, s82, s83, s84, undef, undef, undef, undef, undef, undef, undef, undef, undef, undef, undef, undef, undef, undef, undef, undef, undef, undef, undef, undef, undef, undef, undef, undef, undef, undef, undef, undef, undef, undef, undef, undef, undef, undef, undef, undef, undef, undef, undef, undef, undef, undef, undef, undef, undef, undef, undef, undef, undef, undef, undef, undef, undef, undef, undef, undef, undef, undef, undef, undef, undef, undef, undef, undef, undef, undef, undef, undef, undef], defers := [] } ∧ Below wr.heap.size wr W ∧ F0 p.v (L.getD 0 false) s68 ∧ F0 (.pointer (some ⟨w.heap.size + 1, 0, none⟩)) (L.getD 1 false) s69 ∧ F0 (.slice A l.length cap) (L.getD 2 false) s70 ∧ F0 (.pointer (some ⟨w.heap.size + 1, 1, none⟩)) (L.getD 3 false) s71 ∧ F0 (.int .i64 now) (L.getD 4 false) s72 ∧ FO 4 1 wr.heap.size l.length ((keepF p l now).map Value.bool) (L.getD 5 false) s73 W ∧ F0 p.v (L.getD 6 false) s74 ∧ FO 35 5 wr.heap.size 0 [] (L.getD 7 false && !L.getD 10 false) s75 W ∧ F0 (.pointer (some ⟨w.heap.size + 1, 0, none⟩)) (L.getD 8 false) s76 ∧ F0 (.slice A l.length cap) (L.getD 9 false) s77 ∧ FO 35 5 wr.heap.size l.length (l.flatMap Ref.cs) (L.getD 10 false && !L.getD 13 false) s78 W ∧ F0 x.v (L.getD 11 false) s79 ∧ FB wr.heap.size x (L.getD 12 false && !L.getD 13 false) s80 W ∧ FO 35 5 wr.heap.size (l.length + 1) ((l ++ [x]).flatMap Ref.cs) (L.getD 13 false) s81 W ∧ F0 (.pointer (some ⟨w.heap.size + 1, 1, none⟩)) (L.getD 14 false) s82 ∧ F0 (.int .i64 now) (L.getD 15 false) s83 ∧ FO 4 1 wr.heap.size (l.length + 1) ((keepF p (l ++ [x]) now).map Value.bool) (L.getD 16 false) s84 W ∧ FO 4 1 wr.heap.size l.length ((keepF p l now).map Value.bool) (L.getD 17 false) s10 W ∧ FO 4 1 wr.heap.size (l.length + 1) ((keepF p (l ++ [x]) now).map Value.bool) (L.getD 18 false) s11 W ∧ ((L.getD 7 false && (L.getD 12 false && !L.getD 10 false)) = true → s75.ownBlock ≠ s80.ownBlock) ∧ (L.getD 13 false = true → L.getD 10 false = true)) ?h0 ?hstep ?hend
      case h0 =>
        refine ⟨undef, undef, undef, undef, undef, undef, undef, undef, undef, undef, undef, undef, undef, undef, undef, undef, undef, undef, undef, rfl, (Below.refl _ _).drew, ?_, ?_, ?_, ?_, ?_, ?_, ?_, ?_, ?_, ?_, ?_, ?_, ?_, ?_, ?_, ?_, ?_, ?_, ?_, ?_, ?_⟩
        all_goals (intro e; simp only [getD_none, Bool.false_and, Bool.and_false] at e; cases e)
      case hstep =>
        rintro L a W hs ⟨s10, s11, s68, s69, s70, s71, s72, s73, s74, s75, s76, s77, s78, s79, s80, s81, s82, s83, s84, rfl, hB, h0, h1, h2, h3, h4, h5, h6, h7, h8, h9, h10, h11, h12, h13, h14, h15, h16, h17, h18, hd, ho⟩ i hi
        have hs19 : L.size = 19 := by simpa using hs
        have hi19 : i < 19 := by obtain ⟨h, _⟩ := unlisted_lt (mem_ready.1 hi).1; omega
        have hun := unlisted_false hi
        have G := fun j => getD_put L i j (by omega)
        have bP := HP3.out.below hB (by omega); have bB := HBy3.out.below hB (by omega); have bX := HX3.out.below hB (by omega)
        rcases (show i = 0 ∨ i = 1 ∨ i = 2 ∨ i = 3 ∨ i = 4 ∨ i = 5 ∨ i = 6 ∨ i = 7 ∨ i = 8 ∨ i = 9 ∨ i = 10 ∨ i = 11 ∨ i = 12 ∨ i = 13 ∨ i = 14 ∨ i = 15 ∨ i = 16 ∨ i = 17 ∨ i = 18 from by omega) with rfl | rfl | rfl | rfl | rfl | rfl | rfl | rfl | rfl | rfl | rfl | rfl | rfl | rfl | rfl | rfl | rfl | rfl | rfl
        all_goals simp (decide := true) only [G, decide_false, Bool.false_or, decide_true, Bool.true_or, Bool.true_and, Bool.not_true, Bool.and_false, Bool.not_false, Bool.and_true]
        case inl =>
          have q0 := bP.cell 0; have q1 := bP.cell 1; have q2 := bP.cell 2; have q3 := bP.cell 3
          simp only [List.getElem?_toArray, List.getElem?_cons_zero, List.getElem?_cons_succ] at q0 q1 q2 q3
          refine wpOp_one rfl ?_
          go_wp2_with fail
          exact ⟨s10, s11, _, s69, s70, s71, s72, s73, s74, s75, s76, s77, s78, s79, s80, s81, s82, s83, s84, rfl, hB, (fun _ => rfl), h1, h2, h3, h4, h5, h6, h7, h8, h9, h10, h11, h12, h13, h14, h15, h16, h17, h18, hd, ho⟩
        case inr.inl =>
          refine wpOp_one rfl ?_
          go_wp2_with fail
          exact ⟨s10, s11, s68, _, s70, s71, s72, s73, s74, s75, s76, s77, s78, s79, s80, s81, s82, s83, s84, rfl, hB, h0, (fun _ => rfl), h2, h3, h4, h5, h6, h7, h8, h9, h10, h11, h12, h13, h14, h15, h16, h17, h18, hd, ho⟩
        case inr.inr.inl =>
          have q0 := bB.cell 0; have q1 := bB.cell 1
          simp only [List.getElem?_toArray, List.getElem?_cons_zero, List.getElem?_cons_succ] at q0 q1
          have l1 : L.getD 1 false = true := ready_after hi rfl (by kernel_rfl)
          obtain rfl := h1 l1
          refine wpOp_one rfl ?_
          go_wp2_with fail
          exact ⟨s10, s11, s68, _, _, s71, s72, s73, s74, s75, s76, s77, s78, s79, s80, s81, s82, s83, s84, rfl, hB, h0, h1, (fun _ => rfl), h3, h4, h5, h6, h7, h8, h9, h10, h11, h12, h13, h14, h15, h16, h17, h18, hd, ho⟩
        case inr.inr.inr.inl =>
          refine wpOp_one rfl ?_
          go_wp2_with fail
          exact ⟨s10, s11, s68, s69, s70, _, s72, s73, s74, s75, s76, s77, s78, s79, s80, s81, s82, s83, s84, rfl, hB, h0, h1, h2, (fun _ => rfl), h4, h5, h6, h7, h8, h9, h10, h11, h12, h13, h14, h15, h16, h17, h18, hd, ho⟩
        case inr.inr.inr.inr.inl =>
          have q0 := bB.cell 0; have q1 := bB.cell 1
          simp only [List.getElem?_toArray, List.getElem?_cons_zero, List.getElem?_cons_succ] at q0 q1
          have l3 : L.getD 3 false = true := ready_after hi rfl (by kernel_rfl)
          obtain rfl := h3 l3
          refine wpOp_one rfl ?_
          go_wp2_with fail
          exact ⟨s10, s11, s68, s69, s70, _, _, s73, s74, s75, s76, s77, s78, s79, s80, s81, s82, s83, s84, rfl, hB, h0, h1, h2, h3, (fun _ => rfl), h5, h6, h7, h8, h9, h10, h11, h12, h13, h14, h15, h16, h17, h18, hd, ho⟩
        case inr.inr.inr.inr.inr.inl =>
          have l0 : L.getD 0 false = true := ready_after hi rfl (by kernel_rfl)
          have l2 : L.getD 2 false = true := ready_after hi rfl (by kernel_rfl)
          have l4 : L.getD 4 false = true := ready_after hi rfl (by kernel_rfl)
          obtain rfl := h0 l0
          obtain rfl := h2 l2
          obtain rfl := h4 l4
          refine wpOp_one rfl ?_
          go_wp2_with fail
          refine (keep_any p l hok now A cap W ((HR3.out.below hB).more hB.size) (by omega)).mono ?_; rintro e W' ⟨v, rfl, hown, hb⟩
          go_wp2_with fail
          exact ⟨s10, s11, _, s69, _, s71, _, _, s74, s75, s76, s77, s78, s79, s80, s81, s82, s83, s84, rfl, hB.trans (hb.mono hB.size), h0, h1, h2, h3, h4, (fun _ => own_base hown hB.size), h6, h7.below hb, h8, h9, h10.below hb, h11, h12.below hb, h13.below hb, h14, h15, h16.below hb, h17.below hb, h18.below hb, hd, ho⟩
        case inr.inr.inr.inr.inr.inr.inl =>
          have q0 := bP.cell 0; have q1 := bP.cell 1; have q2 := bP.cell 2; have q3 := bP.cell 3
          simp only [List.getElem?_toArray, List.getElem?_cons_zero, List.getElem?_cons_succ] at q0 q1 q2 q3
          refine wpOp_one rfl ?_
          go_wp2_with fail
          exact ⟨s10, s11, s68, s69, s70, s71, s72, s73, _, s75, s76, s77, s78, s79, s80, s81, s82, s83, s84, rfl, hB, h0, h1, h2, h3, h4, h5, (fun _ => rfl), h7, h8, h9, h10, h11, h12, h13, h14, h15, h16, h17, h18, hd, ho⟩
        case inr.inr.inr.inr.inr.inr.inr.inl =>
          have hb : Below W.heap.size W (W.alloc (.cells #[] 35)) := (Below.refl _ W).alloc (Nat.le_refl _) _
          have hX : (L.getD 12 false && !L.getD 10 false) = true → some W.heap.size ≠ s80.ownBlock := fun e => by
            simp only [Bool.and_eq_true, Bool.not_eq_true'] at e
            have h13 : L.getD 13 false = false := by cases h : L.getD 13 false; rfl; exact absurd ((ho h).symm.trans e.2) (by decide)
            obtain ⟨g, _, rfl, hg⟩ := h12 (by rw [e.1, h13]; rfl)
            have := hg.lt
            simp [Value.ownBlock]; omega
          refine wpOp_one rfl ?_
          go_wp2_with fail
          exact ⟨s10, s11, s68, s69, s70, s71, s72, s73, s74, _, s76, s77, s78, s79, s80, s81, s82, s83, s84, rfl, hB.trans (hb.mono hB.size), h0, h1, h2, h3, h4, h5.below hb, h6, (fun _ => World.ownsRow_made W #[] 0 hB.size (Nat.zero_le _) (by simp)), h8, h9, h10.below hb, h11, h12.below hb, h13.below hb, h14, h15, h16.below hb, h17.below hb, h18.below hb, hX, ho⟩
        case inr.inr.inr.inr.inr.inr.inr.inr.inl =>
          refine wpOp_one rfl ?_
          go_wp2_with fail
          exact ⟨s10, s11, s68, s69, s70, s71, s72, s73, s74, s75, _, s77, s78, s79, s80, s81, s82, s83, s84, rfl, hB, h0, h1, h2, h3, h4, h5, h6, h7, (fun _ => rfl), h9, h10, h11, h12, h13, h14, h15, h16, h17, h18, hd, ho⟩
        case inr.inr.inr.inr.inr.inr.inr.inr.inr.inl =>
          have q0 := bB.cell 0; have q1 := bB.cell 1
          simp only [List.getElem?_toArray, List.getElem?_cons_zero, List.getElem?_cons_succ] at q0 q1
          have l8 : L.getD 8 false = true := ready_after hi rfl (by kernel_rfl)
          obtain rfl := h8 l8
          refine wpOp_one rfl ?_
          go_wp2_with fail
          exact ⟨s10, s11, s68, s69, s70, s71, s72, s73, s74, s75, _, _, s78, s79, s80, s81, s82, s83, s84, rfl, hB, h0, h1, h2, h3, h4, h5, h6, h7, h8, (fun _ => rfl), h10, h11, h12, h13, h14, h15, h16, h17, h18, hd, ho⟩
        case inr.inr.inr.inr.inr.inr.inr.inr.inr.inr.inl =>
          have l7 : L.getD 7 false = true := ready_after hi rfl (by kernel_rfl)
          have l9 : L.getD 9 false = true := ready_after hi rfl (by kernel_rfl)
          obtain rfl := h9 l9
          have own7 := h7 (by rw [l7, hun]; rfl)
          obtain ⟨A1, c1, rfl⟩ := own_slice own7
          have h13 : L.getD 13 false = false := by cases h : L.getD 13 false; rfl; exact absurd ((ho h).symm.trans hun) (by decide)
          refine wpOp_one rfl ?_
          refine wpList_append_any _ rfl (.tmp 75) (.tmp 77) 25 rfl wr.heap.size 35 i0 _ 5 56 Tryd.underlying25 hi0 hz0 hz1 hz2 rfl (by decide) _ _ _ rfl own7 W.heap.size A l.length cap (l.flatMap Ref.cs) rfl ((HR3.out.below hB).more hB.size) HCS.out (by unfold maxLen; omega) (by omega) hB.size ?_; intro v' W' hown hgrow _
          rw [Nat.zero_add, List.nil_append] at hown
          go_wp2_with fail
          exact ⟨s10, s11, s68, s69, s70, s71, s72, s73, s74, _, s76, _, _, s79, s80, s81, s82, s83, s84, rfl, hB.grown hgrow hB.size (fun k hk => (own7.lt k hk).1), h0, h1, h2, h3, h4, h5.other own7 hgrow (by decide), h6, (fun e => by cases e), h8, h9, (fun _ => hown), h11, h12.grown hgrow (fun e => hd (by rw [l7, hun, (Bool.and_eq_true_iff.1 e).1]; rfl)), (fun e => by rw [h13] at e; cases e), h14, h15, h16.other own7 hgrow (by decide), h17.other own7 hgrow (by decide), h18.other own7 hgrow (by decide), (fun e => by cases e), (fun _ => trivial)⟩
        case inr.inr.inr.inr.inr.inr.inr.inr.inr.inr.inr.inl =>
          have q0 := bX.cell 0; have q1 := bX.cell 1; have q2 := bX.cell 2; have q3 := bX.cell 3; have q4 := bX.cell 4
          simp only [List.getElem?_toArray, List.getElem?_cons_zero, List.getElem?_cons_succ] at q0 q1 q2 q3 q4
          refine wpOp_one rfl ?_
          go_wp2_with fail
          exact ⟨s10, s11, s68, s69, s70, s71, s72, s73, s74, s75, s76, s77, s78, _, s80, s81, s82, s83, s84, rfl, hB, h0, h1, h2, h3, h4, h5, h6, h7, h8, h9, h10, (fun _ => rfl), h12, h13, h14, h15, h16, h17, h18, hd, ho⟩
        case inr.inr.inr.inr.inr.inr.inr.inr.inr.inr.inr.inr.inl =>
          have l11 : L.getD 11 false = true := ready_after hi rfl (by kernel_rfl)
          obtain rfl := h11 l11
          have hb : Below W.heap.size W (W.alloc (.cells #[.string x.m, .int .i64 x.n, .int .i64 x.t, .string x.nm, .int .i64 x.u] 35)) := (Below.refl _ W).alloc (Nat.le_refl _) _
          have hX : (L.getD 7 false && !L.getD 10 false) = true → s75.ownBlock ≠ some W.heap.size := fun e => by
            have ho7 := h7 e
            rcases ho7.2 with ⟨rfl, _⟩ | ⟨g, cap', cur, rfl, _, hh, _⟩
            · simp [Value.ownBlock]
            · have := (Array.getElem?_eq_some_iff.1 hh).1; simp [Value.ownBlock]; omega
          refine wpOp_one rfl ?_
          go_wp2_with fail
          exact ⟨s10, s11, s68, s69, s70, s71, s72, s73, s74, s75, s76, s77, s78, _, _, s81, s82, s83, s84, rfl, hB.trans (hb.mono hB.size), h0, h1, h2, h3, h4, h5.below hb, h6, h7.below hb, h8, h9, h10.below hb, h11, (fun _ => ⟨W.heap.size, hB.size, rfl, Blk.new _ _ _⟩), h13.below hb, h14, h15, h16.below hb, h17.below hb, h18.below hb, hX, ho⟩
        case inr.inr.inr.inr.inr.inr.inr.inr.inr.inr.inr.inr.inr.inl =>
          have l10 : L.getD 10 false = true := ready_after hi rfl (by kernel_rfl)
          have l12 : L.getD 12 false = true := ready_after hi rfl (by kernel_rfl)
          have own10 := h10 (by rw [l10, hun]; rfl)
          obtain ⟨A1, c1, rfl⟩ := own_slice own10
          obtain ⟨g, hg1, rfl, hg⟩ := h12 (by rw [l12, hun]; rfl)
          refine wpOp_one rfl ?_
          refine wpList_append_own_at _ rfl (.tmp 78) (.tmp 80) 25 rfl wr.heap.size 35 i0 _ 5 56 Tryd.underlying25 hi0 hz0 hz1 hz2 rfl (by decide) _ _ _ rfl own10 ⟨g, 0, none⟩ 1 1 x.cs rfl rfl (blk_news hg) (by simp [Ref.cs, Value.oneCell']) (by unfold maxLen; omega) (by omega) hB.size ?_; intro v' W' hown hgrow _ _
          go_wp2_with fail
          exact ⟨s10, s11, s68, s69, s70, s71, s72, s73, s74, s75, s76, s77, _, s79, _, _, s82, s83, s84, rfl, hB.grown hgrow hB.size (fun k hk => (own10.lt k hk).1), h0, h1, h2, h3, h4, h5.other own10 hgrow (by decide), h6, (fun e => by rw [l10] at e; simp at e), h8, h9, (fun e => by cases e), h11, (fun e => by cases e), (fun _ => by rw [List.flatMap_append]; simpa using hown), h14, h15, h16.other own10 hgrow (by decide), h17.other own10 hgrow (by decide), h18.other own10 hgrow (by decide), (fun e => by rw [l10] at e; simp at e), (fun _ => l10)⟩
        case inr.inr.inr.inr.inr.inr.inr.inr.inr.inr.inr.inr.inr.inr.inl =>
          refine wpOp_one rfl ?_
          go_wp2_with fail
          exact ⟨s10, s11, s68, s69, s70, s71, s72, s73, s74, s75, s76, s77, s78, s79, s80, s81, _, s83, s84, rfl, hB, h0, h1, h2, h3, h4, h5, h6, h7, h8, h9, h10, h11, h12, h13, (fun _ => rfl), h15, h16, h17, h18, hd, ho⟩
        case inr.inr.inr.inr.inr.inr.inr.inr.inr.inr.inr.inr.inr.inr.inr.inl =>
          have q0 := bB.cell 0; have q1 := bB.cell 1
          simp only [List.getElem?_toArray, List.getElem?_cons_zero, List.getElem?_cons_succ] at q0 q1
          have l14 : L.getD 14 false = true := ready_after hi rfl (by kernel_rfl)
          obtain rfl := h14 l14
          refine wpOp_one rfl ?_
          go_wp2_with fail
          exact ⟨s10, s11, s68, s69, s70, s71, s72, s73, s74, s75, s76, s77, s78, s79, s80, s81, _, _, s84, rfl, hB, h0, h1, h2, h3, h4, h5, h6, h7, h8, h9, h10, h11, h12, h13, h14, (fun _ => rfl), h16, h17, h18, hd, ho⟩
        case inr.inr.inr.inr.inr.inr.inr.inr.inr.inr.inr.inr.inr.inr.inr.inr.inl =>
          have l6 : L.getD 6 false = true := ready_after hi rfl (by kernel_rfl)
          have l13 : L.getD 13 false = true := ready_after hi rfl (by kernel_rfl)
          have l15 : L.getD 15 false = true := ready_after hi rfl (by kernel_rfl)
          obtain rfl := h6 l6
          obtain rfl := h15 l15
          have own13 := h13 l13
          obtain ⟨A2, c2, rfl⟩ := own_slice own13
          refine wpOp_one rfl ?_
          go_wp2_with fail
          refine (keep_snoc p l x hok hxo now A2 c2 W (Reads.of_own own13) (by omega)).mono ?_; rintro e W' ⟨v, rfl, hown, hb⟩
          go_wp2_with fail
          exact ⟨s10, s11, s68, s69, s70, s71, s72, s73, _, s75, s76, s77, s78, s79, s80, _, s82, _, _, rfl, hB.trans (hb.mono hB.size), h0, h1, h2, h3, h4, h5.below hb, h6, h7.below hb, h8, h9, h10.below hb, h11, h12.below hb, h13.below hb, h14, h15, (fun _ => own_base hown hB.size), h17.below hb, h18.below hb, hd, ho⟩
        case inr.inr.inr.inr.inr.inr.inr.inr.inr.inr.inr.inr.inr.inr.inr.inr.inr.inl =>
          have l5 : L.getD 5 false = true := ready_after hi rfl (by kernel_rfl)
          refine wpOp_one rfl ?_
          go_wp2_with fail
          exact ⟨_, s11, s68, s69, s70, s71, s72, s73, s74, s75, s76, s77, s78, s79, s80, s81, s82, s83, s84, rfl, hB, h0, h1, h2, h3, h4, h5, h6, h7, h8, h9, h10, h11, h12, h13, h14, h15, h16, (fun _ => h5 l5), h18, hd, ho⟩
        case inr.inr.inr.inr.inr.inr.inr.inr.inr.inr.inr.inr.inr.inr.inr.inr.inr.inr =>
          have l16 : L.getD 16 false = true := ready_after hi rfl (by kernel_rfl)
          refine wpOp_one rfl ?_
          go_wp2_with fail
          exact ⟨s10, _, s68, s69, s70, s71, s72, s73, s74, s75, s76, s77, s78, s79, s80, s81, s82, s83, s84, rfl, hB, h0, h1, h2, h3, h4, h5, h6, h7, h8, h9, h10, h11, h12, h13, h14, h15, h16, h17, (fun _ => h16 l16), hd, ho⟩
      case hend =>
        rintro L a W hs ⟨s10, s11, s68, s69, s70, s71, s72, s73, s74, s75, s76, s77, s78, s79, s80, s81, s82, s83, s84, rfl, hB, h0, h1, h2, h3, h4, h5, h6, h7, h8, h9, h10, h11, h12, h13, h14, h15, h16, h17, h18, hd, ho⟩ hr
        have hall := ended_all hr hs (by kernel_rfl)
        have hoa := h17 (hall 17 (by decide))
        have hob := h18 (hall 18 (by decide))
        clear hall hr hs h0 h1 h2 h3 h4 h5 h6 h7 h8 h9 h10 h11 h12 h13 h14 h15 h16 h17 h18 hd ho
        have HBF := Lib.hid (HB3.out.trans (hB.mono HB3.out.size))
        obtain ⟨Aa, ca, rfl⟩ := own_slice hoa
        obtain ⟨Ab, cb, rfl⟩ := own_slice hob
        have hcb := own_cap hob (by omega)
        have HAa := Lib.hid (Reads.of_own hoa); have HAb := Lib.hid (Reads.of_own hob)
        have bB4 := HBy3.out.below hB (by omega); have bX4 := HX3.out.below hB (by omega)
        have hr4 := (HR3.out.below hB).more hB.size
        have hzB := bX4.lt
        have HBy4 := Lib.hid bB4; have HX4 := Lib.hid bX4; have HR4 := Lib.hid hr4
        have q0 := bB4.cell 0
        simp only [List.getElem?_toArray, List.getElem?_cons_zero, List.getElem?_cons_succ] at q0
        clear hoa hob hB HB3 HP3 HBy3 HX3 HR3 HB2 HR bB4 bX4 hr4
        go_wp2_with fail
        clear q0
        obtain ⟨V, hV⟩ : ∃ V, V = W := ⟨_, rfl⟩
        subst hV
        go_loopw [102] (fun i wv => ∃ k : Nat, i = .int .i64 k ∧ k ≤ l.length ∧ Below V.heap.size V wv) (fun i _ => l.length - (intOf i).toNat)
        case atStart => exact ⟨0, rfl, Nat.zero_le _, Below.refl _ _⟩
        case round =>
          obtain ⟨k, rfl, hk2, hbv⟩ := hrel
          have hbz2 := hbv.size
          by_cases hlt2 : k < l.length
          · obtain ⟨b, o, y, hA, hy, hbl, d0, d1, d2, d3, d4⟩ := (HR4.out.below hbv).ref rfl hlt2
            have hym : y ∈ l := by rw [hy]; exact List.getElem_mem _
            have bY := Blk.new wr 35 #[.string y.m, .int .i64 y.n, .int .i64 y.t, .string y.nm, .int .i64 y.u]
            have hbY := hbv.alloc hbz2 (.cells #[.string y.m, .int .i64 y.n, .int .i64 y.t, .string y.nm, .int .i64 y.u] 35)
            have bX5 := HX4.out.below hbY hzB
            obtain ⟨b1, o1, v1, hA1, hv1, hbl1, c1⟩ := (HAa.out.below hbY).single hlt2
            obtain ⟨b2, o2, v2, hA2, hv2, hbl2, c2⟩ := (HAb.out.below hbY).single (show k < l.length + 1 by omega)
            obtain rfl : v1 = .bool (keepB p now l y) := by
              rw [List.getElem?_map, keepF, List.getElem?_map, List.getElem?_eq_getElem hlt2, ← hy] at hv1
              simpa using hv1.symm
            obtain rfl : v2 = .bool (keepB p now (l ++ [x]) y) := by
              rw [List.getElem?_map, keepF, List.getElem?_map, List.getElem?_append_left hlt2, List.getElem?_eq_getElem hlt2, ← hy] at hv2
              simpa using hv2.symm
            have hdrop := keep_drop p now l x y hym
            have hother := keep_other p now l x y hym
            have y0 := bY.cell 0; have x0 := bX5.cell 0
            simp only [List.getElem?_toArray, List.getElem?_cons_zero] at y0 x0
            have hkI : (k : Int) < (l.length : Int) := by omega
            have hkI2 : (k : Int) < (l.length : Int) + 1 := by omega
            have bB5 := HBy4.out.below hbv (by omega)
            have q0 := bB5.cell 0
            simp only [List.getElem?_toArray, List.getElem?_cons_zero] at q0
            obtain ⟨Wx, hWx⟩ : ∃ W, W = wr.alloc (.cells #[.string y.m, .int .i64 y.n, .int .i64 y.t, .string y.nm, .int .i64 y.u] 35) := ⟨_, rfl⟩
            have HBY := Lib.hid hbY; have C1 := Lib.hid c1; have C2 := Lib.hid c2; have Y0 := Lib.hid y0; have X0 := Lib.hid x0
            have hyl : wr.heap.size < Wx.heap.size := by rw [hWx]; simp
            subst hA hA1 hA2
            clear hy hv1 hv2 bY hbY bX5 bB5 c1 c2 y0 x0 hbv
            go_wp2_with fail
            rw [← hWx] at HBY C1 C2 Y0 X0 ⊢
            have c1 := C1.out; have c2 := C2.out; have y0 := Y0.out; have x0 := X0.out
            clear hWx d0 d1 d2 d3 d4 q0 C1 C2 Y0 X0
            generalize keepB p now l y = ka at *
            generalize keepB p now (l ++ [x]) y = kb at *
            by_cases hm : y.m = x.m
            · have e1 : (y.m.toList == x.m.toList) = true := by rw [hm]; simp
              have e2 : (y.m.toList != x.m.toList) = false := by rw [hm]; simp
              clear hm hother
              cases ka <;> cases kb
              case false.true => exact absurd (hdrop rfl) (by decide)
              all_goals
                clear hdrop
                go_quiet (fail)
                go_wp2_with fail
                go_roundw
                case rel => exact ⟨k + 1, by go_num, by omega, below_drewN HBY.out _⟩
                case measure => simp [intOf]; omega
            · have e1 := toList_ne hm
              have e2 : (y.m.toList != x.m.toList) = true := by simpa [bne] using e1
              obtain rfl := hother hm
              clear hm hother hdrop
              cases kb
              all_goals
                go_quiet (fail)
                go_wp2_with fail
                go_roundw
                case rel => exact ⟨k + 1, by go_num, by omega, below_drewN HBY.out _⟩
                case measure => simp [intOf]; omega
          · have hke : k = l.length := by omega
            subst hke
            obtain ⟨b2, o2, v2, hA2, hv2, hbl2, c2⟩ := (HAb.out.below hbv).single (show l.length < l.length + 1 by omega)
            obtain rfl : v2 = .bool true := by
              have hkl := keep_last p now l x HL.out
              rw [List.getElem?_map, keepF, List.getElem?_map, List.getElem?_concat_length] at hv2
              simp only [Option.map_some, hkl, Option.some.injEq] at hv2
              exact hv2.symm
            have HB2 := Lib.hid (HAb.out.below hbv)
            have HA2 := Lib.hid hA2
            have hBF2 := HBF.out.trans (hbv.mono HBF.out.size)
            have HBF2 := Lib.hid hBF2
            have hra := (HAa.out.below hbv).more hbz2
            have HRA := Lib.hid hra
            have hcbI : (l.length : Int) ≤ (cb : Int) := by omega
            rw [hA2]
            clear hv2 hA2 hbv hBF2 hra
            cases alone
            · go_wp2_with fail
              go_ret
              exact ⟨rfl, HBF2.out⟩
            · have hne : ∀ y ∈ l, y.m ≠ x.m := by
                have := HAL.out
                unfold noneB at this
                intro y hy
                have := List.all_eq_true.1 this y hy
                simpa using this
              have hrow : keepF p l now = (l.map (keepB p now (l ++ [x]))) := by
                unfold keepF
                exact List.map_congr_left fun y hy => (keep_other p now l x y hy (hne y hy)).symm
              have HROW := Lib.hid hrow
              have hpre : Reads wr wr.heap.size 1 (some ⟨b2, o2, none⟩) l.length ((keepF p l now).map Value.bool) := by
                have h := HB2.out.more hbz2
                rw [HA2.out] at h
                refine ⟨by simp [keepF], fun hn => ?_⟩
                obtain ⟨ad, e, hb, hc⟩ := h.2 (by omega)
                refine ⟨ad, e, hb, fun j u hu => hc j u ?_⟩
                rw [HROW.out] at hu
                rw [keepF, List.map_append, List.map_append, List.getElem?_append_left]
                · exact hu
                · have := (List.getElem?_eq_some_iff.1 hu).1; simpa using this
              have HPRE := Lib.hid hpre
              clear hne hrow hpre
              go_wp2_with fail
              refine (same_any (keepF p l now) l.length (by simp [keepF]) (by omega) _ _ _ _ _ HRA.out HPRE.out).mono ?_; rintro e w9 ⟨rfl, hb9⟩
              have hfin := HBF2.out.trans (hb9.mono HBF2.out.size)
              clear hb9
              go_wp2_with fail
              go_ret
              exact ⟨rfl, hfin⟩
end Go.Proofs.YtgelaffifjicoaaDoor
