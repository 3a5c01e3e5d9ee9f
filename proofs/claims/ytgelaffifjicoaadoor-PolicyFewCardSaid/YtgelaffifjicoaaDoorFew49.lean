/-
  PolicyFew: the walk.
-/
import Derived.WalkSpells
import Derived.Test.YtgelaffifjicoaaDoorMany
import Derived.Test.YtgelaffifjicoaaDoorAlive49
namespace Go.Proofs.YtgelaffifjicoaaDoor
open Go.RowKit
set_option linter.unusedSimpArgs false
set_option linter.unusedVariables false

/-- What may stand in a machine's set. -/
def FewOk (p : Pol) (l : List Ref) (s : ByteArray) (q : PairI) : Prop := (⟨s, q.2, q.1⟩ : One) ∈ l.map Ref.one ∧ ∃ j, j < 4 ∧ picked (perN j) (p.num j) (l.map Ref.one) ⟨s, q.2, q.1⟩
theorem few_le (p : Pol) (hp : p.chk = 0) (l : List Ref) (s : ByteArray) (S : List PairI) (hS : S.Nodup) (h : ∀ q ∈ S, FewOk p l s q) : (S.length : Int) ≤ p.d + p.k + p.m + p.y := by
  have h1 := few_sum p hp (l.map Ref.one) s (S.map fun q => (⟨s, q.2, q.1⟩ : One)) (nodup_map_on _ S hS (fun a _ b _ e => by
    obtain ⟨a1, a2⟩ := a; obtain ⟨b1, b2⟩ := b
    injection e with _ e1 e2
    simp at e1 e2; rw [e1, e2])) (fun x hx => by
    obtain ⟨q, hq, rfl⟩ := List.mem_map.1 hx
    obtain ⟨a, b⟩ := h q hq
    exact ⟨rfl, a, b⟩)
  rwa [List.length_map] at h1
theorem few_ok (p : Pol) (hp : p.chk = 0) (l : List Ref) (x : Ref) (hx : x ∈ l) (hk : keepB p 9000000000000000000 l x = true) (hu : x.u ≤ 9000000000000000000) : FewOk p l x.m (x.t, x.n) := by
  rw [keepB_iff _ _ _ _ hx] at hk
  refine ⟨List.mem_map_of_mem hx, ?_⟩
  rcases hk with c | c | c
  · exact absurd hp c
  · omega
  · exact c
theorem few_put {α : Type} [DecidableEq α] {Ok : α → Prop} {S : List α} (h : ∀ q ∈ S, Ok q) {q0 : α} (h0 : Ok q0) : ∀ q ∈ (if q0 ∈ S then S else q0 :: S), Ok q := by
  intro q hq
  by_cases c : q0 ∈ S
  · rw [if_pos c] at hq; exact h q hq
  · rw [if_neg c] at hq
    rcases List.mem_cons.1 hq with e | hq
    · rw [e]; exact h0
    · exact h q hq
theorem chk_inF (p : Pol) (h : p.chk = 0) : (0 ≤ p.d ∧ p.d ≤ 1000) ∧ (0 ≤ p.k ∧ p.k ≤ 1000) ∧ (0 ≤ p.m ∧ p.m ≤ 1000) ∧ (0 ≤ p.y ∧ p.y ≤ 1000) := by
  unfold Pol.chk polChk at h
  split at h
  · cases h
  · omega

set_option maxRecDepth 100000 in
set_option maxHeartbeats 2000000 in
theorem few_any (p : Pol) (l : List Ref) (A : Option Addr) (cap : Nat) (m : Int) (w : World) (hm : w.cell? ⟨0, 0, none⟩ = some (.int .i64 m)) (hr : Reads w w.heap.size 5 A l.length (l.flatMap Ref.cs)) (hok : ∀ x ∈ l, x.ok) (hlen : l.length ≤ maxLen) :
    Calls Tryd.prog 4 #[p.v, .slice A l.length cap] w fun e w' => e = .returned (.bool true) ∧ Below w.heap.size w w' := by
  have hmb := World.block_lt_of_cell? w _ hm
  have hmm := @run_makeMap Tryd.prog
  have qT : ∀ (w : World) (r : Option Nat), (binOp .eql 38 (.map r) (.map none)).run Tryd.prog w = .ok (.bool r.isNone) w := fun w r => run_eql_map_nil w _ _ _ r Tryd.underlying38
  have hbq : ∀ (w : World) (a b : Int), (Instr.build 39 #[(0, .int .i64 a), (1, .int .i64 b)]).run Tryd.prog w = .ok (.agg #[.int .i64 a, .int .i64 b]) w := fun w a b => run_build w 39 _ _ (by kernel_rfl)
  go_enter Tryd.func4, Tryd.ntmps4
  have bP := Blk.new w 23 #[.int .i64 p.d, .int .i64 p.k, .int .i64 p.m, .int .i64 p.y]
  have hb0 : Below w.heap.size w (w.alloc (.cells #[.int .i64 p.d, .int .i64 p.k, .int .i64 p.m, .int .i64 p.y] 23)) := by (repeat' (first | with_reducible exact Below.refl _ _ | assumption | (with_reducible refine Below.drew ?_) | (with_reducible refine below_drewN ?_ _) | (with_reducible refine Below.alloc ?_ (by first | exact Nat.le_refl _ | (simp; done) | (simp; omega)) _) | (with_reducible refine Below.setCell ?_ (by first | exact Nat.le_refl _ | (simp; done) | (simp; omega)) _)))
  have hm0 := (hb0.cell (p := ⟨0, 0, none⟩) hmb).trans hm
  have hzz : w.heap.size < (w.alloc (.cells #[.int .i64 p.d, .int .i64 p.k, .int .i64 p.m, .int .i64 p.y] 23)).heap.size := by simp
  have HR := Lib.hid hr; have HP := Lib.hid bP; have HB0 := Lib.hid hb0
  clear hr bP hb0 hm
  go_wp2_with fail
  refine (alive49_any m _ hm0).mono ?_; rintro e w1 ⟨rfl, hb1⟩
  have bP1 := HP.out.below hb1 (by omega)
  have hbw1 := HB0.out.trans (hb1.mono HB0.out.size)
  have hzw1 : w.heap.size < w1.heap.size := bP1.lt
  have HP1 := Lib.hid bP1; have HB1 := Lib.hid hbw1
  clear bP1 hbw1 hb1 HP HB0 hm0 hzz
  go_wp2_with fail
  refine (great49_any l A cap w1 ((HR.out.below HB1.out).more HB1.out.size) hlen).mono ?_; rintro e w2 ⟨⟨v, rfl, hv⟩, hb2⟩
  have bP2 := HP1.out.below hb2 (by omega)
  have hbw2 := HB1.out.trans (hb2.mono HB1.out.size)
  have hzw2 : w.heap.size < w2.heap.size := bP2.lt
  clear hb2 HP1 HB1 hzw1
  have p0 := bP2.cell 0; have p1 := bP2.cell 1; have p2 := bP2.cell 2; have p3 := bP2.cell 3
  simp only [List.getElem?_toArray, List.getElem?_cons_zero, List.getElem?_cons_succ] at p0 p1 p2 p3
  rcases hv with rfl | ⟨rfl, hfew⟩
  · go_wp2_with fail
    go_ret
    exact ⟨rfl, hbw2⟩
  have HP2 := Lib.hid bP2; have HB2 := Lib.hid hbw2
  clear bP2 hbw2
  go_wp2_with fail
  refine (check_any p.d p.k p.m p.y w2).mono ?_; rintro e w3 ⟨rfl, hb3⟩
  have bP3 := HP2.out.below hb3 (by omega)
  have hbw3 := HB2.out.trans (hb3.mono HB2.out.size)
  have hzw3 : w.heap.size < w3.heap.size := bP3.lt
  clear p0 p1 p2 p3 hb3 HP2 HB2 hzw2
  by_cases hch : p.chk = 0
  case neg =>
    have hch' : (polChk p.d p.k p.m p.y == 0) = false := by rw [beq_eq_false_iff_ne]; exact hch
    go_wp2_with fail
    go_ret
    exact ⟨rfl, hbw3⟩
  have hch' : polChk p.d p.k p.m p.y = 0 := hch
  rw [hch']
  obtain ⟨⟨pd0, pd1⟩, ⟨pk0, pk1⟩, ⟨pm0, pm1⟩, ⟨py0, py1⟩⟩ := chk_inF p hch
  have p0 := bP3.cell 0; have p1 := bP3.cell 1; have p2 := bP3.cell 2; have p3 := bP3.cell 3
  simp only [List.getElem?_toArray, List.getElem?_cons_zero, List.getElem?_cons_succ] at p0 p1 p2 p3
  have HP3 := Lib.hid bP3; have HB3 := Lib.hid hbw3; have HCH := Lib.hid hch
  have hr3 := (HR.out.below hbw3).more hbw3.size
  have HR3 := Lib.hid hr3
  clear bP3 hbw3 hch hch' hr3
  go_wp2_with fail
  refine (keep_any p l hok 9000000000000000000 A cap w3 HR3.out (by omega)).mono ?_; rintro e w4 ⟨v, rfl, hown, hb4⟩
  obtain ⟨Aa, ca, rfl⟩ := own_slice hown
  have HAa := Lib.hid (Reads.of_own hown)
  have bP4 := HP3.out.below hb4 (by omega)
  have hbw4 := HB3.out.trans (hb4.mono HB3.out.size)
  have hzw4 : w.heap.size < w4.heap.size := bP4.lt
  have hr4 := (HR3.out.below hb4).more hb4.size
  have HP4 := Lib.hid bP4; have HB4 := Lib.hid hbw4; have HR4 := Lib.hid hr4
  have hfewI : (l.length : Int) ≤ 50 := by omega
  clear hown hb4 bP4 hbw4 hr4 p0 p1 p2 p3 HP3 HB3 HR3
  go_wp2_with fail
  have hM := Many.made (B := w4.heap.size) (Ok := FewOk p l) w4 (Nat.le_refl _)
  have hb5 := (Below.refl _ w4).alloc (Nat.le_refl _) (.map #[] 0)
  go_loopw [32] (fun i wr => ∃ k : Nat, i = .int .i64 k ∧ k ≤ l.length ∧ Many wr w4.heap.size (2 * k) w4.heap.size (FewOk p l) ∧ Below w4.heap.size w4 wr)
    (fun i _ => l.length - (intOf i).toNat)
  case atStart => exact ⟨0, rfl, Nat.zero_le _, hM, hb5⟩
  case round =>
    clear hM hb5
    obtain ⟨k, rfl, hk, hM, hb⟩ := hrel
    have hbz := hb.size
    have hml := hM.lt
    by_cases hlt : k < l.length
    · obtain ⟨b, o, x, hA, hx, hbl, d0, d1, d2, d3, d4⟩ := (HR4.out.below hb).ref rfl hlt
      have hxm : x ∈ l := by rw [hx]; exact List.getElem_mem _
      have hxo := hok x hxm
      have hkI : (k : Int) < (l.length : Int) := by omega
      have bX := Blk.new wr 35 #[.string x.m, .int .i64 x.n, .int .i64 x.t, .string x.nm, .int .i64 x.u]
      have hbX := hb.alloc hbz (.cells #[.string x.m, .int .i64 x.n, .int .i64 x.t, .string x.nm, .int .i64 x.u] 35)
      have hMX := hM.alloc (.cells #[.string x.m, .int .i64 x.n, .int .i64 x.t, .string x.nm, .int .i64 x.u] 35)
      obtain ⟨b1, o1, v1, hA1, hv1, hbl1, c1⟩ := (HAa.out.below hbX).single hlt
      obtain rfl : v1 = .bool (keepB p 9000000000000000000 l x) := by
        rw [List.getElem?_map, keepF, List.getElem?_map, List.getElem?_eq_getElem hlt, ← hx] at hv1
        simpa using hv1.symm
      have hxsz := hxo.1
      have hbm : some (wr.heap.size) ≠ some w4.heap.size := by intro e; injection e with e; omega
      have hq : okP (x.t, x.n) := ⟨hxo.2.2.1, hxo.2.1⟩
      have hfo := few_ok p HCH.out l x hxm
      have HX := Lib.hid bX; have HBX := Lib.hid hbX; have HMX := Lib.hid hMX; have HFO := Lib.hid hfo
      have hk2 : 2 * k < maxLen := by unfold maxLen; omega
      have hk3 : 2 * k + 1 < maxLen := by unfold maxLen; omega
      have hws : w4.heap.size ≤ (wr.alloc (.cells #[.string x.m, .int .i64 x.n, .int .i64 x.t, .string x.nm, .int .i64 x.u] 35)).heap.size := by simp; omega
      have hat := hMX.at_ x.m hxsz
      have c4 := ((hbX.cell (p := ⟨b1, o1 + k, none⟩) hbl1).symm.trans c1)
      have C4 := Lib.hid c4
      have hbl4 := hbl1
      subst hA hA1
      clear hx hv1 bX hbX hMX hb hM hfo hxo c1 c4
      generalize keepB p 9000000000000000000 l x = ka at *
      rcases hat with hlook | ⟨bs, hlook, hbs, S0, hM0, hS0, hback⟩
      · by_cases hu : x.u ≤ 9000000000000000000
        · cases ka
          · go_wp2_with (at_mapUpdate; refine wpList_begin_many rfl (.tmp 42) (.tmp 44) (.tmp 45) rfl HMX.out hk2 x.m hxsz hws (nb := wr.heap.size + 1) (by simp) rfl rfl rfl ?_; intro w5 hM5 hA5 hg5; obtain ⟨hlook5, hbs5, S0, hM0, hS0, hback⟩ := hA5; have hB5 := Below.grown (HBX.out.alloc HBX.out.size (.map #[] 0)) hg5 (by simp; omega) (fun j hj => (by injection hj with hj; omega)); have hX5 := Blk.grown (HX.out.alloc (.map #[] 0)) hg5 hbm; have c5 := (hB5.cell (p := ⟨b1, o1 + k, none⟩) hbl4).trans C4.out; have x0 := hX5.cell 0; have x1 := hX5.cell 1; have x2 := hX5.cell 2; have x4 := hX5.cell 4; simp only [List.getElem?_toArray, List.getElem?_cons_zero, List.getElem?_cons_succ] at x0 x1 x2 x4; clear hX5 hlook)
            go_roundw
            case rel => exact ⟨k + 1, by go_num, by omega, hM5.mono (by omega), hB5⟩
            case measure => simp [intOf]; omega
          · have hfo := HFO.out rfl hu
            go_wp2_with (first | (at_mapUpdate; refine wpList_begin_many rfl (.tmp 42) (.tmp 44) (.tmp 45) rfl HMX.out hk2 x.m hxsz hws (nb := wr.heap.size + 1) (by simp) rfl rfl rfl ?_; intro w5 hM5 hA5 hg5; obtain ⟨hlook5, hbs5, S0, hM0, hS0, hback⟩ := hA5; have hB5 := Below.grown (HBX.out.alloc HBX.out.size (.map #[] 0)) hg5 (by simp; omega) (fun j hj => (by injection hj with hj; omega)); have hX5 := Blk.grown (HX.out.alloc (.map #[] 0)) hg5 hbm; have c5 := (hB5.cell (p := ⟨b1, o1 + k, none⟩) hbl4).trans C4.out; have x0 := hX5.cell 0; have x1 := hX5.cell 1; have x2 := hX5.cell 2; have x4 := hX5.cell 4; simp only [List.getElem?_toArray, List.getElem?_cons_zero, List.getElem?_cons_succ] at x0 x1 x2 x4; clear hX5 hlook) | (at_mapUpdate; refine wpList_put_marks rfl (.tmp 58) (.tmp 63) (.const (.bool true)) 38 rfl keysP Tryd.underlying38 hM0 hk3 (x.t, x.n) (by rfl) (by rfl) (by rfl) hq ?_; intro w6 hM6' hg6; have hM6 := hback w6 _ hg6 hM6' (few_put (Ok := FewOk p l x.m) hS0 hfo); have hB6 := Below.grown hB5 hg6 (hB5).size (fun j hj => (by injection hj with hj; omega)); clear hM6'))
            go_roundw
            case rel => exact ⟨k + 1, by go_num, by omega, hM6.mono (by omega), hB6⟩
            case measure => simp [intOf]; omega
        · cases ka
          all_goals
            go_wp2_with (at_mapUpdate; refine wpList_begin_many rfl (.tmp 42) (.tmp 44) (.tmp 45) rfl HMX.out hk2 x.m hxsz hws (nb := wr.heap.size + 1) (by simp) rfl rfl rfl ?_; intro w5 hM5 hA5 hg5; obtain ⟨hlook5, hbs5, S0, hM0, hS0, hback⟩ := hA5; have hB5 := Below.grown (HBX.out.alloc HBX.out.size (.map #[] 0)) hg5 (by simp; omega) (fun j hj => (by injection hj with hj; omega)); have hX5 := Blk.grown (HX.out.alloc (.map #[] 0)) hg5 hbm; have c5 := (hB5.cell (p := ⟨b1, o1 + k, none⟩) hbl4).trans C4.out; have x0 := hX5.cell 0; have x1 := hX5.cell 1; have x2 := hX5.cell 2; have x4 := hX5.cell 4; simp only [List.getElem?_toArray, List.getElem?_cons_zero, List.getElem?_cons_succ] at x0 x1 x2 x4; clear hX5 hlook)
            go_roundw
            case rel => exact ⟨k + 1, by go_num, by omega, hM5.mono (by omega), hB5⟩
            case measure => simp [intOf]; omega
      · have hB5 := HBX.out
        have c5 := (hB5.cell (p := ⟨b1, o1 + k, none⟩) hbl1).trans C4.out
        by_cases hu : x.u ≤ 9000000000000000000
        · cases ka
          · go_wp2_with fail
            go_roundw
            case rel => exact ⟨k + 1, by go_num, by omega, HMX.out.mono (by omega), hB5⟩
            case measure => simp [intOf]; omega
          · have hfo := HFO.out rfl hu
            go_wp2_with (at_mapUpdate; refine wpList_put_marks rfl (.tmp 58) (.tmp 63) (.const (.bool true)) 38 rfl keysP Tryd.underlying38 hM0 hk2 (x.t, x.n) (by rfl) (by rfl) (by rfl) hq ?_; intro w6 hM6' hg6; have hM6 := hback w6 _ hg6 hM6' (few_put (Ok := FewOk p l x.m) hS0 hfo); have hB6 := Below.grown hB5 hg6 (hB5).size (fun j hj => (by injection hj with hj; omega)); clear hM6')
            go_roundw
            case rel => exact ⟨k + 1, by go_num, by omega, hM6.mono (by omega), hB6⟩
            case measure => simp [intOf]; omega
        · cases ka
          all_goals
            go_wp2_with fail
            go_roundw
            case rel => exact ⟨k + 1, by go_num, by omega, HMX.out.mono (by omega), hB5⟩
            case measure => simp [intOf]; omega
    · have hke : k = l.length := by omega
      subst hke
      have hkey_ : ∀ (s : ByteArray) (kl : Lit), keyOf Tryd.prog 9 (.string s) = some kl → s.size ≤ maxLen ∧ kl = klS s := by
        intro s kl h
        by_cases hs : s.size ≤ maxLen
        · rw [keyS hs] at h; exact ⟨hs, (Option.some.inj h).symm⟩
        · simp [keyOf, Tryd.underlying9, Go.mapKey, hs] at h
      obtain ⟨D, hown, hent⟩ := hM.entry
      have bP5 := HP4.out.below hb hzw4
      have hB5 := HB4.out.trans (hb.mono HB4.out.size)
      have HP5 := Lib.hid bP5; have HB5 := Lib.hid hB5; have HM := Lib.hid hM; have HENT := Lib.hid hent; have HKEY := Lib.hid hkey_
      have hwrs := hml.2
      have hpw : w.heap.size < wr.heap.size := by omega
      clear bP5 hB5 hb hM hent hkey_
      go_wp2_with (at_range; refine wpList_range_own _ rfl (.tmp 65) 37 rfl 9 38 lawS Tryd.underlying37 mapElem w4.heap.size (2 * l.length) D rfl hown ?_; intro w0 hrg0 hg0 hs0)
      go_frame
      obtain ⟨V, hV⟩ : ∃ V, V = wr := ⟨_, rfl⟩
      subst hV
      go_loopw [10] (fun _ wv => ∃ (left : Lit → Bool) (cnt : Nat), wv.ranges Tryd.prog 9 mapElem w4.heap.size V.heap.size (2 * l.length) D left cnt ∧ V.grownBy wv (some V.heap.size))
        (fun _ wv => wv.rangeLeft w4.heap.size V.heap.size)
      case atStart => exact ⟨_, _, hrg0, hg0.but _⟩
      case round =>
        clear hrg0 hg0 hs0
        obtain ⟨left, cnt, hrg, hgw⟩ := hrel
        have hB6 := Below.grown HB5.out hgw HB5.out.size (fun j hj => by cases hj; omega)
        have HB6 := Lib.hid hB6
        clear hB6
        go_wp2_with (at_next; refine wpList_next_ranges _ rfl (.tmp 66) rfl 9 lawS mapElem Value.string Value.map (fun key kl h => Maps.keyOf_string_inv Tryd.underlying9 h) (fun v y h => mapElem_inv h) w4.heap.size V.heap.size (2 * l.length) D left cnt rfl hrg ?_ ?_)
        · intro _ _
          go_wp2_with fail
          go_ret
          exact ⟨rfl, HB6.out⟩
        · intro s c kl y yp w1 cnt1 hkl _ hRy hat hrg1 hlt hg1 hs1 hen
          have hgw1 := hgw.andThen hg1 (fun j hj => by cases hj; exact Or.inl (Nat.le_refl _))
          have bP6 := Blk.grown HP5.out hgw1 (fun e => by injection e with e; omega)
          have q0 := bP6.cell 0; have q1 := bP6.cell 1; have q2 := bP6.cell 2; have q3 := bP6.cell 3
          simp only [List.getElem?_toArray, List.getElem?_cons_zero, List.getElem?_cons_succ] at q0 q1 q2 q3
          obtain ⟨hss, rfl⟩ := HKEY.out s kl hkl
          have hy : y = datumM c := by rw [mapElem_map] at hRy; exact (congrArg Prod.fst (Option.some.inj hRy)).symm
          have hHG := Lib.hid hgw1; have HRG1 := Lib.hid hrg1
          have hcase := HENT.out s c hss (fun zd => (hat zd).trans hy)
          clear hkl hRy hat hy hgw hg1 bP6 hgw1 hrg1
          rcases hcase with rfl | ⟨b, rfl, hbne, hbB, S, hMS, hOk⟩
          · go_wp2_with fail
            go_roundw
            case rel => exact ⟨_, _, HRG1.out, hHG.out⟩
            case measure => rw [HRG1.out.left_eq, hrg.left_eq]; omega
          · have hle := few_le p HCH.out l s S (by obtain ⟨_, _, h, _⟩ := hMS; exact h) hOk
            have hnl : ¬ (p.d + p.k + p.m + p.y < (S.length : Int)) := by omega
            have hMS1 := hMS.kept hHG.out (fun e => by injection e with e; have := hMS.lt; omega)
            have hln := fun ty => hMS1.len Tryd.underlying38 ty
            clear hMS hOk hMS1
            go_wp2_with fail
            go_roundw
            case rel => exact ⟨_, _, HRG1.out, hHG.out⟩
            case measure => rw [HRG1.out.left_eq, hrg.left_eq]; omega

end Go.Proofs.YtgelaffifjicoaaDoor
