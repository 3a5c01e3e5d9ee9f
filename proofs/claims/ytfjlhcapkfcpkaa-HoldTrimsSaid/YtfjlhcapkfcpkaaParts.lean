/-
  WALKS: the reference of layer 50: parts, Gone, Trim: what hold.Gone and hold.Trim answer.
-/
import Derived.Test.YtfjlhcapkfcpkaaKeep49
import Derived.Test.YtfjlhcapkfcpkaaRfs
namespace Go.Proofs.Ytfjlhcapkfcpkaa
open Go.RowKit
set_option linter.unusedSimpArgs false
set_option linter.unusedVariables false

/-- Two rows that do not share their memory. -/
def Apart (u v : Value) : Prop := ∀ q, u.ownBlock = some q → v.ownBlock = some q → False
theorem Apart.symm {u v : Value} (h : Apart u v) : Apart v u := fun q a b => h q b a
theorem Apart.ne {u v : Value} (h : Apart u v) : u.ownBlock = none ∨ u.ownBlock ≠ v.ownBlock := by
  cases hu : u.ownBlock with
  | none => exact .inl rfl
  | some q => exact .inr fun e => h q hu e.symm
theorem Apart.grow {u v v' : Value} {W : World} {base : Nat} {e : TypeId} {size n : Nat} {xs : List Value} (h : Apart u v) (hu : W.ownsRow base e size u n xs) (hv : v'.ownBlock = v.ownBlock ∨ v'.ownBlock = some W.heap.size) : Apart u v' := by
  intro q h1 h2
  rcases hv with hv | hv
  · exact h q h1 (hv ▸ h2)
  · rw [hv] at h2; injection h2 with h2; subst h2
    have := (hu.lt _ h1).2
    omega
theorem Apart.nil (v : Value) : Apart (.slice none 0 0) v := fun q h _ => by simp [Value.ownBlock] at h

set_option maxRecDepth 100000 in
set_option maxHeartbeats 2000000 in
theorem parts50_any (r : Root) (w : World) (hf : r.fits w w.heap.size) :
    Calls Try.prog 27 #[r.v] w fun e w' => ∃ a b, e = .returned (.tuple #[a, b]) ∧ w'.ownsRow w.heap.size 38 5 a r.stay.length (r.stay.flatMap Ref.cs) ∧
      w'.ownsRow w.heap.size 38 5 b r.gone.length (r.gone.flatMap Ref.cs) ∧ Below w.heap.size w w' := by
  obtain ⟨i0, hi0, hz0, hz1, hz2⟩ := info_parts infoRef
  have hfew := hf.few
  go_enter Try.func27, Try.ntmps27
  have bR := Blk.new w 28 #[.int .i64 r.n, .int .i64 r.now, .slice r.A r.refs.length r.cap, .slice r.A3 r.n3 r.c3, .int .i64 r.pol.d, .int .i64 r.pol.k, .int .i64 r.pol.m, .int .i64 r.pol.y, .slice r.A8 r.n8 r.c8]
  have hb0 : Below w.heap.size w (w.alloc (.cells #[.int .i64 r.n, .int .i64 r.now, .slice r.A r.refs.length r.cap, .slice r.A3 r.n3 r.c3, .int .i64 r.pol.d, .int .i64 r.pol.k, .int .i64 r.pol.m, .int .i64 r.pol.y, .slice r.A8 r.n8 r.c8] 28)) := by (repeat' (first | with_reducible exact Below.refl _ _ | assumption | (with_reducible refine Below.drew ?_) | (with_reducible refine below_drewN ?_ _) | (with_reducible refine Below.alloc ?_ (by first | exact Nat.le_refl _ | (simp; done) | (simp; omega)) _) | (with_reducible refine Below.setCell ?_ (by first | exact Nat.le_refl _ | (simp; done) | (simp; omega)) _)))
  have HR := Lib.hid bR; have HB0 := Lib.hid hb0
  clear bR hb0
  go_wp2_with fail
  refine (keep49_any r.pol r.refs hf.ok r.now r.A r.cap _ ((hf.reads.below HB0.out).more HB0.out.size) hf.few).mono ?_
  rintro e w1 ⟨vk, rfl, hok1, hb1⟩
  obtain ⟨Ak, ck, rfl⟩ := own_slice hok1
  have hz1' := hb1.size
  have bR1 := HR.out.below hb1 (by simp)
  have hbw1 := HB0.out.trans (hb1.mono HB0.out.size)
  have hrk := Reads.of_own hok1
  have HR1 := Lib.hid bR1; have HB1 := Lib.hid hbw1; have HK := Lib.hid hrk
  have hlt1 : w.heap.size < w1.heap.size := bR1.lt
  have HF := Lib.hid hf
  have hkl := kept_len r
  have hzl : (r.refs.zip r.kept).length = r.refs.length := by simp [hkl]
  clear bR1 hbw1 hrk hok1 hb1 HR HB0 hf
  go_wp2_with fail
  go_loopw [5, 6, 7] (fun a b i wr => ∃ k : Nat, i = .int .i64 k ∧ k ≤ r.refs.length ∧
      wr.ownsRow w1.heap.size 38 5 a (stayL ((r.refs.zip r.kept).take k)).length ((stayL ((r.refs.zip r.kept).take k)).flatMap Ref.cs) ∧
      wr.ownsRow w1.heap.size 38 5 b (goneL ((r.refs.zip r.kept).take k)).length ((goneL ((r.refs.zip r.kept).take k)).flatMap Ref.cs) ∧ Apart a b ∧ Below w1.heap.size w1 wr)
    (fun _ _ i _ => r.refs.length - (intOf i).toNat)
  case atStart => exact ⟨0, rfl, Nat.zero_le _, World.ownsRow_nil _ _ _ _, World.ownsRow_nil _ _ _ _, Apart.nil _, Below.refl _ _⟩
  case round =>
    obtain ⟨k, rfl, hk, hoa, hob, hap, hb⟩ := hrel
    have bR2 := HR1.out.below hb hlt1
    have c2 := bR2.cell 2
    simp only [List.getElem?_toArray, List.getElem?_cons_zero, List.getElem?_cons_succ] at c2
    have hle1 := stayL_le ((r.refs.zip r.kept).take k)
    have hle2 := goneL_le ((r.refs.zip r.kept).take k)
    simp only [List.length_take] at hle1 hle2
    have hwz := hb.size
    clear bR2
    by_cases hlt : k < r.refs.length
    · obtain ⟨b, o, x, hA, hx, hbl, d0, d1, d2, d3, d4⟩ := (((HF.out.reads.below HB1.out).more HB1.out.size).below hb).ref rfl hlt
      obtain ⟨bb, ob, v, hAk, hv, hbbl, e0⟩ := (HK.out.below hb).single hlt
      have hkk : k < r.kept.length := by omega
      obtain rfl : v = .bool r.kept[k] := by
        rw [show (keepF r.pol r.refs r.now) = r.kept from rfl, List.getElem?_map, List.getElem?_eq_getElem hkk] at hv
        injection hv with hv; exact hv.symm
      have htk : (r.refs.zip r.kept).take (k + 1) = (r.refs.zip r.kept).take k ++ [(x, r.kept[k])] := by
        rw [List.take_succ_eq_append_getElem (by omega), hx, List.getElem_zip]
      have hlt' : (k : Int) < (r.refs.length : Int) := by omega
      have hbl1 : b < wr.heap.size := by omega
      rw [hA] at c2
      subst hAk
      generalize hkv : r.kept[k] = kv at *
      generalize hpre : (r.refs.zip r.kept).take k = pre at *
      have HTK := Lib.hid htk; have HOA := Lib.hid hoa; have HOB := Lib.hid hob; have HAP := Lib.hid hap
      have hoa1 := hoa.alloc (.cells x.cs.toArray 38)
      have hob1 := hob.alloc (.cells x.cs.toArray 38)
      have hb2 := hb.alloc hb.size (.cells x.cs.toArray 38)
      clear htk hkv hpre hx hA hv hap hoa hob
      cases kv with
      | true =>
        go_wp2_with (at_builtin; refine wpList_append_own_at _ rfl (.tmp 26) (.tmp 32) 22 rfl w1.heap.size 38 i0 _ 5 56 Try.underlying22 hi0 hz0 hz1 hz2 rfl (by omega) _ _ _ rfl hoa1 ⟨wr.heap.size, 0, none⟩ 1 1 x.cs rfl rfl (news_cells wr x.cs _) (by simp [Ref.cs, Value.oneCell']) (by unfold maxLen; omega) (by omega) (by simp; omega) ?_; intro v' w6 hown6 hgrow6 _ hnew6)
        have hob6 := hob1.kept hgrow6 HAP.out.symm.ne
        have hap6 := (HAP.out.symm.grow hob1 hnew6).symm
        have hb6 := hb2.grown hgrow6 (by simp; omega) (fun jj hjj => (hoa1.lt jj hjj).1)
        go_roundw
        case rel =>
          refine ⟨k + 1, by go_num, by omega, ?_, ?_, hap6, hb6⟩
          · rw [HTK.out, stayL_hit pre (x := (x, true)) rfl, List.flatMap_append]; simpa using hown6
          · rw [HTK.out, goneL_miss pre (x := (x, true)) rfl]; exact hob6
        case measure => simp [intOf]; omega
      | false =>
        go_wp2_with (at_builtin; refine wpList_append_own_at _ rfl (.tmp 34) (.tmp 40) 22 rfl w1.heap.size 38 i0 _ 5 56 Try.underlying22 hi0 hz0 hz1 hz2 rfl (by omega) _ _ _ rfl hob1 ⟨wr.heap.size, 0, none⟩ 1 1 x.cs rfl rfl (news_cells wr x.cs _) (by simp [Ref.cs, Value.oneCell']) (by unfold maxLen; omega) (by omega) (by simp; omega) ?_; intro v' w6 hown6 hgrow6 _ hnew6)
        have hoa6 := hoa1.kept hgrow6 HAP.out.ne
        have hap6 := HAP.out.grow hoa1 hnew6
        have hb6 := hb2.grown hgrow6 (by simp; omega) (fun jj hjj => (hob1.lt jj hjj).1)
        go_roundw
        case rel =>
          refine ⟨k + 1, by go_num, by omega, ?_, ?_, hap6, hb6⟩
          · rw [HTK.out, stayL_miss pre (x := (x, false)) rfl]; exact hoa6
          · rw [HTK.out, goneL_hit pre (x := (x, false)) rfl, List.flatMap_append]; simpa using hown6
        case measure => simp [intOf]; omega
    · have hke : k = r.refs.length := by omega
      subst hke
      rw [List.take_of_length_le (by omega)] at hoa hob
      have HOA := Lib.hid hoa; have HOB := Lib.hid hob
      clear hoa hob
      go_wp2_with fail
      go_ret2
      exact ⟨_, _, rfl, own_base HOA.out (by omega), own_base HOB.out (by omega), HB1.out.trans (hb.mono (by omega))⟩

set_option maxRecDepth 100000 in
set_option maxHeartbeats 400000 in
theorem gone50_any (r : Root) (w : World) (hf : r.fits w w.heap.size) :
    Calls Try.prog 19 #[r.v] w fun e w' => ∃ v, e = .returned v ∧ w'.ownsRow w.heap.size 38 5 v r.gone.length (r.gone.flatMap Ref.cs) ∧ Below w.heap.size w w' := by
  go_enter Try.func19, Try.ntmps19
  have hb0 : Below w.heap.size w (w.alloc (.cells #[.int .i64 r.n, .int .i64 r.now, .slice r.A r.refs.length r.cap, .slice r.A3 r.n3 r.c3, .int .i64 r.pol.d, .int .i64 r.pol.k, .int .i64 r.pol.m, .int .i64 r.pol.y, .slice r.A8 r.n8 r.c8] 28)) := by (repeat' (first | with_reducible exact Below.refl _ _ | assumption | (with_reducible refine Below.drew ?_) | (with_reducible refine below_drewN ?_ _) | (with_reducible refine Below.alloc ?_ (by first | exact Nat.le_refl _ | (simp; done) | (simp; omega)) _) | (with_reducible refine Below.setCell ?_ (by first | exact Nat.le_refl _ | (simp; done) | (simp; omega)) _)))
  go_wp2_with fail
  refine (parts50_any r _ ⟨(hf.reads.below hb0).more hb0.size, hf.ok, hf.few⟩).mono ?_
  rintro e w1 ⟨a, b, rfl, hoa, hob, hb1⟩
  have hz := hb0.size
  go_wp2_with fail
  go_ret
  exact ⟨_, rfl, own_base hob hz, hb0.trans (hb1.mono hz)⟩

theorem trim50_results (W : World) (q : Nat) (c0 c1 c2 c3 c4 c5 c6 c7 c8 : Value) (tmps : Array Value) (h8 : tmps.getD 2 undef = .pointer (some ⟨q, 0, none⟩))
    (bF : Blk W q 28 #[c0, c1, c2, c3, c4, c5, c6, c7, c8]) :
    (results Try.f18 tmps).run Try.prog W = .ok (.agg #[c0, c1, c2, c3, c4, c5, c6, c7, c8]) W := by
  have q0 := bF.cell 0; have q1 := bF.cell 1; have q2 := bF.cell 2; have q3 := bF.cell 3; have q4 := bF.cell 4; have q5 := bF.cell 5; have q6 := bF.cell 6; have q7 := bF.cell 7; have q8 := bF.cell 8
  simp only [List.getElem?_toArray, List.getElem?_cons_zero, List.getElem?_cons_succ] at q0 q1 q2 q3 q4 q5 q6 q7 q8
  simp only [Array.getD_eq_getD_getElem?] at h8
  simp [results, Try.results18, go_sem, h8, q0, q1, q2, q3, q4, q5, q6, q7, q8]
  try rfl

set_option maxRecDepth 100000 in
set_option maxHeartbeats 2000000 in
theorem trim50_any (r : Root) (w : World) (hf : r.fits w w.heap.size) :
    Calls Try.prog 18 #[r.v] w fun e w' => ∃ A2 cap2, e = .returned (.agg #[.int .i64 r.n, .int .i64 r.now, .slice A2 r.stay.length cap2, .slice r.A3 r.n3 r.c3, .int .i64 r.pol.d, .int .i64 r.pol.k, .int .i64 r.pol.m, .int .i64 r.pol.y, .slice r.A8 r.n8 r.c8]) ∧
      w'.ownsRow w.heap.size 38 5 (.slice A2 r.stay.length cap2) r.stay.length (r.stay.flatMap Ref.cs) ∧ Below w.heap.size w w' := by
  go_enter Try.func18, Try.ntmps18
  have bR : Blk (w.alloc (.cells #[.int .i64 r.n, .int .i64 r.now, .slice r.A r.refs.length r.cap, .slice r.A3 r.n3 r.c3, .int .i64 r.pol.d, .int .i64 r.pol.k, .int .i64 r.pol.m, .int .i64 r.pol.y, .slice r.A8 r.n8 r.c8] 28)) w.heap.size 28 #[.int .i64 r.n, .int .i64 r.now, .slice r.A r.refs.length r.cap, .slice r.A3 r.n3 r.c3, .int .i64 r.pol.d, .int .i64 r.pol.k, .int .i64 r.pol.m, .int .i64 r.pol.y, .slice r.A8 r.n8 r.c8] := Blk.new _ _ _
  have bQ := Blk.new (w.alloc (.cells #[.int .i64 r.n, .int .i64 r.now, .slice r.A r.refs.length r.cap, .slice r.A3 r.n3 r.c3, .int .i64 r.pol.d, .int .i64 r.pol.k, .int .i64 r.pol.m, .int .i64 r.pol.y, .slice r.A8 r.n8 r.c8] 28)) 28 #[.int .i64 0, .int .i64 0, .slice none 0 0, .slice none 0 0, .int .i64 0, .int .i64 0, .int .i64 0, .int .i64 0, .slice none 0 0]
  replace bR := bR.alloc (.cells #[.int .i64 0, .int .i64 0, .slice none 0 0, .slice none 0 0, .int .i64 0, .int .i64 0, .int .i64 0, .int .i64 0, .slice none 0 0] 28)
  simp only [World.size_alloc] at bQ
  have hb0 : Below w.heap.size w ((w.alloc (.cells #[.int .i64 r.n, .int .i64 r.now, .slice r.A r.refs.length r.cap, .slice r.A3 r.n3 r.c3, .int .i64 r.pol.d, .int .i64 r.pol.k, .int .i64 r.pol.m, .int .i64 r.pol.y, .slice r.A8 r.n8 r.c8] 28)).alloc (.cells #[.int .i64 0, .int .i64 0, .slice none 0 0, .slice none 0 0, .int .i64 0, .int .i64 0, .int .i64 0, .int .i64 0, .slice none 0 0] 28)) := by (repeat' (first | with_reducible exact Below.refl _ _ | assumption | (with_reducible refine Below.drew ?_) | (with_reducible refine below_drewN ?_ _) | (with_reducible refine Below.alloc ?_ (by first | exact Nat.le_refl _ | (simp; done) | (simp; omega)) _) | (with_reducible refine Below.setCell ?_ (by first | exact Nat.le_refl _ | (simp; done) | (simp; omega)) _)))
  have r0 := bR.cell 0; have r1 := bR.cell 1; have r2 := bR.cell 2; have r3 := bR.cell 3; have r4 := bR.cell 4; have r5 := bR.cell 5; have r6 := bR.cell 6; have r7 := bR.cell 7; have r8 := bR.cell 8
  simp only [List.getElem?_toArray, List.getElem?_cons_zero, List.getElem?_cons_succ] at r0 r1 r2 r3 r4 r5 r6 r7 r8
  have HR := Lib.hid bR; have HQ := Lib.hid bQ; have HB0 := Lib.hid hb0; have HF := Lib.hid hf
  clear bR bQ hb0 hf
  go_wp2_with fail
  refine (parts50_any r _ ⟨(HF.out.reads.below HB0.out).more HB0.out.size, HF.out.ok, HF.out.few⟩).mono ?_
  rintro e w1 ⟨a, b, rfl, hoa, hob, hb1⟩
  obtain ⟨A2, cap2, rfl⟩ := own_slice hoa
  have bR := HR.out.below hb1 (by simp; omega)
  have bQ := HQ.out.below hb1 (by simp)
  have hw1 : w.heap.size + 2 ≤ w1.heap.size := by have := hb1.size; simp at this; omega
  have hbw := HB0.out.trans (hb1.mono HB0.out.size)
  have hlow2 : ∀ q, (Value.slice A2 r.stay.length cap2).ownBlock = some q → w.heap.size + 2 ≤ q := fun q e => by have := (hoa.lt q e).1; simp at this; omega
  clear r0 r1 r2 r3 r4 r5 r6 r7 r8 hb1 hob
  have r0 := bR.cell 0; have r1 := bR.cell 1; have r2 := bR.cell 2; have r3 := bR.cell 3; have r4 := bR.cell 4; have r5 := bR.cell 5; have r6 := bR.cell 6; have r7 := bR.cell 7; have r8 := bR.cell 8
  have q0 := bQ.cell 0; have q1 := bQ.cell 1; have q2 := bQ.cell 2; have q3 := bQ.cell 3; have q4 := bQ.cell 4; have q5 := bQ.cell 5; have q6 := bQ.cell 6; have q7 := bQ.cell 7; have q8 := bQ.cell 8
  have f2 := bR.frozen 2
  have g0 := bQ.frozen 0; have g1 := bQ.frozen 1; have g2 := bQ.frozen 2; have g3 := bQ.frozen 3; have g4 := bQ.frozen 4; have g5 := bQ.frozen 5; have g6 := bQ.frozen 6; have g7 := bQ.frozen 7; have g8 := bQ.frozen 8
  simp only [List.getElem?_toArray, List.getElem?_cons_zero, List.getElem?_cons_succ] at r0 r1 r2 r3 r4 r5 r6 r7 r8 q0 q1 q2 q3 q4 q5 q6 q7 q8
  have HQ1 := Lib.hid bQ; have HB1 := Lib.hid hbw; have HO1 := Lib.hid hoa; have HLOW := Lib.hid hlow2
  clear HR HQ HB0 bR bQ hbw hoa hlow2
  go_wp2_with fail
  change bodyPost _ _ _ _ _ (stores (w1.setCell ⟨w.heap.size, 2, none⟩ (.slice A2 r.stay.length cap2)) (fill (w.heap.size + 1) 0 [.int .i64 r.n, .int .i64 r.now, .slice A2 r.stay.length cap2, .slice r.A3 r.n3 r.c3, .int .i64 r.pol.d, .int .i64 r.pol.k, .int .i64 r.pol.m, .int .i64 r.pol.y, .slice r.A8 r.n8 r.c8]))
  have ho1 : (w1.setCell ⟨w.heap.size, 2, none⟩ (.slice A2 r.stay.length cap2)).ownsRow _ 38 5 (.slice A2 r.stay.length cap2) r.stay.length (r.stay.flatMap Ref.cs) :=
    stores_owns HO1.out [(⟨w.heap.size, 2, none⟩, .slice A2 r.stay.length cap2)] (fun p hp e => by rcases List.mem_singleton.1 hp with rfl; have := HLOW.out _ e; simp at this; omega)
  have hQ2 := HQ1.out.far (p := ⟨w.heap.size, 2, none⟩) (show w.heap.size + 1 ≠ w.heap.size by omega) (.slice A2 r.stay.length cap2)
  have hB2 := HB1.out.setCell (p := ⟨w.heap.size, 2, none⟩) (Nat.le_refl _) (.slice A2 r.stay.length cap2)
  have HZ := filled _ w.heap.size _ _ _ _ _ _ _ _ _ _ (.int .i64 r.n) (.int .i64 r.now) (.slice A2 r.stay.length cap2) (.slice r.A3 r.n3 r.c3) (.int .i64 r.pol.d) (.int .i64 r.pol.k) (.int .i64 r.pol.m) (.int .i64 r.pol.y) (.slice r.A8 r.n8 r.c8) hQ2 (by omega)
  refine bodyPost_ret (trim50_results _ _ _ _ _ _ _ _ _ _ _ _ rfl HZ.1) rfl ⟨A2, cap2, rfl, ?_, hB2.trans HZ.2⟩
  exact own_base (stores_owns ho1 _ (fun p hp e => by have h1 := fill_block _ _ _ _ hp; have h2 := HLOW.out _ e; omega)) (by simp; omega)

end Go.Proofs.Ytfjlhcapkfcpkaa
