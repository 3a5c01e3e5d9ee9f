/-
  WALKS: the document's Find and Set of layer 50.
-/
import Derived.Test.YtfjlhcapkfcpkaaEqr
namespace Go.Proofs.Ytfjlhcapkfcpkaa
open Go.RowKit
set_option linter.unusedSimpArgs false
set_option linter.unusedVariables false

set_option maxRecDepth 100000 in
set_option maxHeartbeats 1000000 in
theorem find50_any (r : Root) (mach : ByteArray) (n : Int) (w : World) (hf : r.fits w w.heap.size) :
    Calls Try.prog 25 #[r.v, .string mach, .int .i64 n] w fun e w' => e = .returned (.int .i64 (place r.refs mach n)) ∧ Below w.heap.size w w' := by
  have hfew := hf.few
  have hrd := hf.reads
  go_enter Try.func25, Try.ntmps25
  have bR := Blk.new w 28 #[.int .i64 r.n, .int .i64 r.now, .slice r.A r.refs.length r.cap, .slice r.A3 r.n3 r.c3, .int .i64 r.pol.d, .int .i64 r.pol.k, .int .i64 r.pol.m, .int .i64 r.pol.y, .slice r.A8 r.n8 r.c8]
  have hb0 : Below w.heap.size w (w.alloc (.cells #[.int .i64 r.n, .int .i64 r.now, .slice r.A r.refs.length r.cap, .slice r.A3 r.n3 r.c3, .int .i64 r.pol.d, .int .i64 r.pol.k, .int .i64 r.pol.m, .int .i64 r.pol.y, .slice r.A8 r.n8 r.c8] 28)) := by (repeat' (first | with_reducible exact Below.refl _ _ | assumption | (with_reducible refine Below.drew ?_) | (with_reducible refine below_drewN ?_ _) | (with_reducible refine Below.alloc ?_ (by first | exact Nat.le_refl _ | (simp; done) | (simp; omega)) _) | (with_reducible refine Below.setCell ?_ (by first | exact Nat.le_refl _ | (simp; done) | (simp; omega)) _)))
  go_wp2_with fail
  go_loopw [7] (fun i wr => ∃ k : Nat, i = .int .i64 k ∧ k ≤ r.refs.length ∧ (∀ j (hj : j < k) (hj' : j < r.refs.length), hit mach n r.refs[j] = false) ∧ Blk wr w.heap.size 28 #[.int .i64 r.n, .int .i64 r.now, .slice r.A r.refs.length r.cap, .slice r.A3 r.n3 r.c3, .int .i64 r.pol.d, .int .i64 r.pol.k, .int .i64 r.pol.m, .int .i64 r.pol.y, .slice r.A8 r.n8 r.c8] ∧ Below w.heap.size w wr)
    (fun i _ => r.refs.length - (intOf i).toNat)
  case atStart => exact ⟨0, rfl, Nat.zero_le _, fun j hj => absurd hj (by omega), bR, hb0⟩
  case round =>
    obtain ⟨k, rfl, hk, hmiss, bR, hb⟩ := hrel
    have HM := Lib.hid hmiss
    have c2 := bR.cell 2
    simp only [List.getElem?_toArray, List.getElem?_cons_zero, List.getElem?_cons_succ] at c2
    have HR := Lib.hid bR
    clear hmiss bR
    by_cases hlt : k < r.refs.length
    · obtain ⟨b, o, x, hA, hx, hbl, d0, d1, d2, d3, d4⟩ := (hrd.below hb).ref rfl hlt
      have HX := Lib.hid hx
      have HA := Lib.hid hA
      rw [hA] at c2
      by_cases h1 : x.m = mach
      · by_cases h2 : x.n = n
        · subst h1 h2
          have hpl : place r.refs x.m x.n = k := by
            unfold place
            rw [findIdx_hit r.refs (hit x.m x.n) k hlt (fun j hj => HM.out j hj (by omega)) (by rw [← hx]; simp [hit])]
          have HP := Lib.hid hpl
          clear hpl hx hA
          go_wp2_with fail
          go_ret
          exact ⟨ret_int HP.out.symm, hb⟩
        · subst h1
          have e2 : ((x.n : Int) == n) = false := beq_eq_false_iff_ne.2 h2
          clear hx hA
          go_wp2_with fail
          go_roundw
          case rel =>
            refine ⟨k + 1, by go_num, by omega, fun j hj hj' => ?_, HR.out, hb⟩
            by_cases e : j = k
            · subst e; rw [← HX.out]; simp [hit, h2]
            · exact HM.out j (by omega) hj'
          case measure => simp [intOf]; omega
      · have e1 := toList_ne h1
        clear hx hA
        go_wp2_with fail
        go_roundw
        case rel =>
          refine ⟨k + 1, by go_num, by omega, fun j hj hj' => ?_, HR.out, hb⟩
          by_cases e : j = k
          · subst e; rw [← HX.out]; simp [hit, h1]
          · exact HM.out j (by omega) hj'
        case measure => simp [intOf]; omega
    · have hke : k = r.refs.length := by omega
      subst hke
      have hpl : place r.refs mach n = -1 := by
        unfold place
        rw [findIdx_miss r.refs (hit mach n) (fun j hj => HM.out j hj hj)]
      have HP := Lib.hid hpl
      clear hpl
      go_wp2_with fail
      go_ret
      exact ⟨ret_int HP.out.symm, hb⟩

theorem set50_results (W : World) (q : Nat) (c0 c1 c2 c3 c4 c5 c6 c7 c8 v9 : Value) (tmps : Array Value) (h8 : tmps.getD 8 undef = .pointer (some ⟨q, 0, none⟩)) (h9 : tmps.getD 9 undef = v9)
    (bF : Blk W q 28 #[c0, c1, c2, c3, c4, c5, c6, c7, c8]) :
    (results Try.f13 tmps).run Try.prog W = .ok (.tuple #[.agg #[c0, c1, c2, c3, c4, c5, c6, c7, c8], v9]) W := by
  have q0 := bF.cell 0; have q1 := bF.cell 1; have q2 := bF.cell 2; have q3 := bF.cell 3; have q4 := bF.cell 4; have q5 := bF.cell 5; have q6 := bF.cell 6; have q7 := bF.cell 7; have q8 := bF.cell 8
  simp only [List.getElem?_toArray, List.getElem?_cons_zero, List.getElem?_cons_succ] at q0 q1 q2 q3 q4 q5 q6 q7 q8
  simp only [Array.getD_eq_getD_getElem?] at h8 h9
  simp [results, Try.results13, go_sem, h8, h9, q0, q1, q2, q3, q4, q5, q6, q7, q8]
  try rfl

theorem own_some {w : World} {base : Nat} {e : TypeId} {size g n cap : Nat} {xs : List Value} (h : w.ownsRow base e size (.slice (some ⟨g, 0, none⟩) n cap) n xs) {j : Nat} (hj : j < n * size) : ∃ y, w.cell? ⟨g, j, none⟩ = some y := by
  rw [h.cellAt _ hj]
  exact ⟨_, List.getElem?_eq_getElem (by have := h.1; omega)⟩

set_option maxRecDepth 100000 in
set_option maxHeartbeats 2000000 in
theorem set50_any (r : Root) (mach : ByteArray) (n u : Int) (w : World) (hf : r.fits w w.heap.size) :
    Calls Try.prog 13 #[r.v, .string mach, .int .i64 n, .int .i64 u] w fun e w' =>
      (r.setErr mach n u ≠ 0 → e = .returned (.tuple #[.agg #[.int .i64 0, .int .i64 0, .slice none 0 0, .slice none 0 0, .int .i64 0, .int .i64 0, .int .i64 0, .int .i64 0, .slice none 0 0], .int .i64 (r.setErr mach n u)])) ∧
      (r.setErr mach n u = 0 → ∃ g cap', e = .returned (.tuple #[.agg #[.int .i64 r.n, .int .i64 r.now, .slice (some ⟨g, 0, none⟩) r.refs.length cap', .slice r.A3 r.n3 r.c3, .int .i64 r.pol.d, .int .i64 r.pol.k, .int .i64 r.pol.m, .int .i64 r.pol.y, .slice r.A8 r.n8 r.c8], .int .i64 0]) ∧
        w'.ownsRow w.heap.size 38 5 (.slice (some ⟨g, 0, none⟩) r.refs.length cap') r.refs.length ((r.setRow mach n u).flatMap Ref.cs)) ∧ Below w.heap.size w w' := by
  obtain ⟨i0, hi, hz0, hz1, hz2⟩ := info_parts infoRef
  have hfew := hf.few
  have hrd := hf.reads
  go_enter Try.func13, Try.ntmps13
  have bR : Blk (w.alloc (.cells #[.int .i64 r.n, .int .i64 r.now, .slice r.A r.refs.length r.cap, .slice r.A3 r.n3 r.c3, .int .i64 r.pol.d, .int .i64 r.pol.k, .int .i64 r.pol.m, .int .i64 r.pol.y, .slice r.A8 r.n8 r.c8] 28)) w.heap.size 28 #[.int .i64 r.n, .int .i64 r.now, .slice r.A r.refs.length r.cap, .slice r.A3 r.n3 r.c3, .int .i64 r.pol.d, .int .i64 r.pol.k, .int .i64 r.pol.m, .int .i64 r.pol.y, .slice r.A8 r.n8 r.c8] := Blk.new _ _ _
  have bQ := Blk.new (w.alloc (.cells #[.int .i64 r.n, .int .i64 r.now, .slice r.A r.refs.length r.cap, .slice r.A3 r.n3 r.c3, .int .i64 r.pol.d, .int .i64 r.pol.k, .int .i64 r.pol.m, .int .i64 r.pol.y, .slice r.A8 r.n8 r.c8] 28)) 28 #[.int .i64 0, .int .i64 0, .slice none 0 0, .slice none 0 0, .int .i64 0, .int .i64 0, .int .i64 0, .int .i64 0, .slice none 0 0]
  replace bR := bR.alloc (.cells #[.int .i64 0, .int .i64 0, .slice none 0 0, .slice none 0 0, .int .i64 0, .int .i64 0, .int .i64 0, .int .i64 0, .slice none 0 0] 28)
  simp only [World.size_alloc] at bQ
  have hb0 : Below w.heap.size w ((w.alloc (.cells #[.int .i64 r.n, .int .i64 r.now, .slice r.A r.refs.length r.cap, .slice r.A3 r.n3 r.c3, .int .i64 r.pol.d, .int .i64 r.pol.k, .int .i64 r.pol.m, .int .i64 r.pol.y, .slice r.A8 r.n8 r.c8] 28)).alloc (.cells #[.int .i64 0, .int .i64 0, .slice none 0 0, .slice none 0 0, .int .i64 0, .int .i64 0, .int .i64 0, .int .i64 0, .slice none 0 0] 28)) := by (repeat' (first | with_reducible exact Below.refl _ _ | assumption | (with_reducible refine Below.drew ?_) | (with_reducible refine below_drewN ?_ _) | (with_reducible refine Below.alloc ?_ (by first | exact Nat.le_refl _ | (simp; done) | (simp; omega)) _) | (with_reducible refine Below.setCell ?_ (by first | exact Nat.le_refl _ | (simp; done) | (simp; omega)) _)))
  have r0 := bR.cell 0; have r1 := bR.cell 1; have r2 := bR.cell 2; have r3 := bR.cell 3; have r4 := bR.cell 4; have r5 := bR.cell 5; have r6 := bR.cell 6; have r7 := bR.cell 7; have r8 := bR.cell 8
  simp only [List.getElem?_toArray, List.getElem?_cons_zero, List.getElem?_cons_succ] at r0 r1 r2 r3 r4 r5 r6 r7 r8
  go_wp2_with fail
  refine (find50_any r mach n _ ⟨(hrd.below hb0).more hb0.size, hf.ok, hf.few⟩).mono ?_
  rintro e w1 ⟨rfl, hb1⟩
  replace bR := bR.below hb1 (by simp; omega)
  replace bQ := bQ.below hb1 (by simp)
  have hb := hb0.trans (hb1.mono hb0.size)
  have hw1 : w.heap.size + 2 ≤ w1.heap.size := by have := hb1.size; simp at this; omega
  clear hb0 hb1 r0 r1 r2 r3 r4 r5 r6 r7 r8
  replace hrd := hrd.below hb
  have r0 := bR.cell 0; have r1 := bR.cell 1; have r2 := bR.cell 2; have r3 := bR.cell 3; have r4 := bR.cell 4; have r5 := bR.cell 5; have r6 := bR.cell 6; have r7 := bR.cell 7; have r8 := bR.cell 8
  have q0 := bQ.cell 0; have q1 := bQ.cell 1; have q2 := bQ.cell 2; have q3 := bQ.cell 3; have q4 := bQ.cell 4; have q5 := bQ.cell 5; have q6 := bQ.cell 6; have q7 := bQ.cell 7; have q8 := bQ.cell 8
  have f2 := bR.frozen 2
  have g0 := bQ.frozen 0; have g1 := bQ.frozen 1; have g2 := bQ.frozen 2; have g3 := bQ.frozen 3; have g4 := bQ.frozen 4; have g5 := bQ.frozen 5; have g6 := bQ.frozen 6; have g7 := bQ.frozen 7; have g8 := bQ.frozen 8
  simp only [List.getElem?_toArray, List.getElem?_cons_zero, List.getElem?_cons_succ] at r0 r1 r2 r3 r4 r5 r6 r7 r8 q0 q1 q2 q3 q4 q5 q6 q7 q8
  rcases idx_cases r.refs mach n with ⟨hnone, hp⟩ | ⟨k, hsome, hk, hp⟩
  · rw [hp]
    have he : r.setErr mach n u = 9 := by unfold Root.setErr; rw [hnone]
    have HE := Lib.hid he
    clear he hp hnone
    go_wp2_with fail
    change bodyPost _ _ _ _ _ (stores w1 (fill (w.heap.size + 1) 0 [.int .i64 0, .int .i64 0, .slice none 0 0, .slice none 0 0, .int .i64 0, .int .i64 0, .int .i64 0, .int .i64 0, .slice none 0 0]))
    have he := HE.out
    have HZ := filled w1 w.heap.size _ _ _ _ _ _ _ _ _ _ (.int .i64 0) (.int .i64 0) (.slice none 0 0) (.slice none 0 0) (.int .i64 0) (.int .i64 0) (.int .i64 0) (.int .i64 0) (.slice none 0 0) bQ (by omega)
    exact bodyPost_ret (set50_results _ _ _ _ _ _ _ _ _ _ _ _ _ rfl rfl HZ.1) rfl ⟨fun _ => by rw [he] <;> rfl, fun h => by omega, hb.trans HZ.2⟩
  · rw [hp]
    obtain ⟨b, o, x, hA, hx, hbl, d0, d1, d2, d3, d4⟩ := hrd.ref rfl hk
    have HS := Lib.hid hsome
    have HX := Lib.hid hx
    have HA := Lib.hid hA
    clear hp hx hsome
    by_cases hu : u ≤ r.now
    · have he : r.setErr mach n u = 1 := by unfold Root.setErr; rw [HS.out]; simp [hu]
      have HE := Lib.hid he
      clear he
      obtain ⟨z, hz⟩ : ∃ z : Int, z = (k : Int) := ⟨_, rfl⟩
      have hz0 : ¬ z < 0 := by omega
      rw [← hz]
      have HR := Lib.hid bR; have HQ := Lib.hid bQ; have HB := Lib.hid hb
      clear d0 d1 d2 d3 d4 hrd hz hA hk hbl HX HA HS hfew hf bR bQ hb
      go_wp2_with fail
      have bQ := HQ.out; have hb := HB.out; have he := HE.out
      change bodyPost _ _ _ _ _ (stores w1 (fill (w.heap.size + 1) 0 [.int .i64 0, .int .i64 0, .slice none 0 0, .slice none 0 0, .int .i64 0, .int .i64 0, .int .i64 0, .int .i64 0, .slice none 0 0]))
      have HZ := filled w1 w.heap.size _ _ _ _ _ _ _ _ _ _ (.int .i64 0) (.int .i64 0) (.slice none 0 0) (.slice none 0 0) (.int .i64 0) (.int .i64 0) (.int .i64 0) (.int .i64 0) (.slice none 0 0) bQ (by omega)
      exact bodyPost_ret (set50_results _ _ _ _ _ _ _ _ _ _ _ _ _ rfl rfl HZ.1) rfl ⟨fun _ => by rw [he] <;> rfl, fun h => by omega, hb.trans HZ.2⟩
    · have hxu := HX.out
      have hk0 : ¬ ((k : Int) < 0) := by omega
      have HR := Lib.hid bR; have HQ := Lib.hid bQ; have HB := Lib.hid hb; have HD := Lib.hid hrd; have HF := Lib.hid hf
      clear bR bQ hb hrd hf d0 d1 d2 d3
      by_cases hv : u < x.u
      · have he : r.setErr mach n u = 20 := by unfold Root.setErr; rw [HS.out]; simp [hu, hk, ← hxu, hv]
        have HE := Lib.hid he
        clear he hxu HX HA HS HR HD HF
        go_wp2_with fail
        have bQ := HQ.out; have hb := HB.out; have he := HE.out
        change bodyPost _ _ _ _ _ (stores w1 (fill (w.heap.size + 1) 0 [.int .i64 0, .int .i64 0, .slice none 0 0, .slice none 0 0, .int .i64 0, .int .i64 0, .int .i64 0, .int .i64 0, .slice none 0 0]))
        have HZ := filled w1 w.heap.size _ _ _ _ _ _ _ _ _ _ (.int .i64 0) (.int .i64 0) (.slice none 0 0) (.slice none 0 0) (.int .i64 0) (.int .i64 0) (.int .i64 0) (.int .i64 0) (.slice none 0 0) bQ (by omega)
        exact bodyPost_ret (set50_results _ _ _ _ _ _ _ _ _ _ _ _ _ rfl rfl HZ.1) rfl ⟨fun _ => by rw [he] <;> rfl, fun h => by omega, hb.trans HZ.2⟩
      · have he : r.setErr mach n u = 0 := by unfold Root.setErr; rw [HS.out]; simp [hu, hk, ← hxu, hv]
        have HE := Lib.hid he
        clear he hxu HX
        have hrd := HD.out
        rw [hA] at hrd
        have hcs : ∀ v ∈ r.refs.flatMap Ref.cs, v.oneCell' = true := by
          intro v hv
          obtain ⟨x, _, hx⟩ := List.mem_flatMap.1 hv
          simp [Ref.cs] at hx
          rcases hx with rfl | rfl | rfl | rfl | rfl <;> rfl
        have hrd1 := (hrd.more (by omega : w.heap.size ≤ w1.heap.size)).alloc (Nat.le_refl _) (.cells #[] 38)
        have hown0 : (w1.alloc (.cells #[] 38)).ownsRow w1.heap.size 38 5 (.slice (some ⟨w1.heap.size, 0, none⟩) 0 0) 0 [] := World.ownsRow_made w1 #[] 0 (Nat.le_refl _) (Nat.zero_le _) (by simp)
        have HRD1 := Lib.hid hrd1; have HOWN0 := Lib.hid hown0; have HCS := Lib.hid hcs
        clear hrd hrd1 hown0 hcs
        have e2 := (World.cell?_alloc_lt w1 (.cells #[] 38) ⟨w.heap.size, 2, none⟩ (by simp only; omega)).trans r2
        rw [hA] at e2
        go_wp2_with (at_builtin; refine wpList_append_any _ rfl (.tmp 32) (.tmp 34) 22 rfl w1.heap.size 38 i0 _ 5 56 Try.underlying22 hi hz0 hz1 hz2 rfl (by decide) _ _ _ rfl HOWN0.out w1.heap.size (some ⟨b, o, none⟩) r.refs.length r.cap (r.refs.flatMap Ref.cs) rfl HRD1.out HCS.out (by unfold maxLen; omega) (by omega) (by simp) ?_; intro v' w2 hown hgrow _; rw [Nat.zero_add, List.nil_append] at hown; obtain ⟨g, cap', rfl, hgb, hgl'⟩ := hown.form (by omega); have hb2 := ((Below.refl _ w1).alloc (Nat.le_refl _) (.cells #[] 38)).grown hgrow (by simp) (fun k hk => by (cases hk <;> exact Nat.le_refl _)); have hgl := hown.lt g rfl; have hgs : ¬ g = w.heap.size := (by omega); have hgs' : ¬ w.heap.size = g := (by omega); have bR := HR.out.below hb2 (by omega); have bQ := HQ.out.below hb2 (by omega); have hb := HB.out.trans (hb2.mono (by omega)); obtain ⟨y, e4⟩ := own_some hown (j := k * 5 + 4) (by omega); have ef := hown.frozenAt (k * 5 + 4); clear r0 r1 r2 r3 r4 r5 r6 r7 r8 q0 q1 q2 q3 q4 q5 q6 q7 q8 f2 g0 g1 g2 g3 g4 g5 g6 g7 g8 hb2; have r0 := bR.cell 0; have r1 := bR.cell 1; have r2 := bR.cell 2; have r3 := bR.cell 3; have r4 := bR.cell 4; have r5 := bR.cell 5; have r6 := bR.cell 6; have r7 := bR.cell 7; have r8 := bR.cell 8; have q0 := bQ.cell 0; have q1 := bQ.cell 1; have q2 := bQ.cell 2; have q3 := bQ.cell 3; have q4 := bQ.cell 4; have q5 := bQ.cell 5; have q6 := bQ.cell 6; have q7 := bQ.cell 7; have q8 := bQ.cell 8; have f2 := bR.frozen 2; have g0 := bQ.frozen 0; have g1 := bQ.frozen 1; have g2 := bQ.frozen 2; have g3 := bQ.frozen 3; have g4 := bQ.frozen 4; have g5 := bQ.frozen 5; have g6 := bQ.frozen 6; have g7 := bQ.frozen 7; have g8 := bQ.frozen 8; simp only [List.getElem?_toArray, List.getElem?_cons_zero, List.getElem?_cons_succ] at r0 r1 r2 r3 r4 r5 r6 r7 r8 q0 q1 q2 q3 q4 q5 q6 q7 q8; have HR2 := Lib.hid bR; have HQ2 := Lib.hid bQ; have HB2 := Lib.hid hb; have HO2 := Lib.hid hown; clear HR HQ HB HD HRD1 HOWN0 HCS bR bQ hb hown hA HA e2 hgrow)
        change bodyPost _ _ _ _ _ (stores ((w2.setCell ⟨w.heap.size, 2, none⟩ (.slice (some ⟨g, 0, none⟩) r.refs.length cap')).setCell ⟨g, k * 5 + 4, none⟩ (.int .i64 u)) (fill (w.heap.size + 1) 0 [.int .i64 r.n, .int .i64 r.now, .slice (some ⟨g, 0, none⟩) r.refs.length cap', .slice r.A3 r.n3 r.c3, .int .i64 r.pol.d, .int .i64 r.pol.k, .int .i64 r.pol.m, .int .i64 r.pol.y, .slice r.A8 r.n8 r.c8]))
        have he := HE.out
        have hrow : r.setRow mach n u = r.refs.modify k fun x => { x with u := u } := by unfold Root.setRow; rw [HS.out]
        have ho1 : (w2.setCell ⟨w.heap.size, 2, none⟩ (.slice (some ⟨g, 0, none⟩) r.refs.length cap')).ownsRow w1.heap.size 38 5 (.slice (some ⟨g, 0, none⟩) r.refs.length cap') r.refs.length (r.refs.flatMap Ref.cs) :=
          stores_owns HO2.out [(⟨w.heap.size, 2, none⟩, .slice (some ⟨g, 0, none⟩) r.refs.length cap')] (fun p hp e => by rcases List.mem_singleton.1 hp with rfl; injection e with e; exact hgs e)
        have ho2 := (ho1.stored (k * 5 + 4) (.int .i64 u)).1
        rw [flat_modify r.refs k hk, ← hrow] at ho2
        have hQ2 := (HQ2.out.far (p := ⟨w.heap.size, 2, none⟩) (show w.heap.size + 1 ≠ w.heap.size by omega) (.slice (some ⟨g, 0, none⟩) r.refs.length cap')).far (p := ⟨g, k * 5 + 4, none⟩) (show w.heap.size + 1 ≠ g by omega) (.int .i64 u)
        have hB2 := (HB2.out.setCell (p := ⟨w.heap.size, 2, none⟩) (Nat.le_refl _) (.slice (some ⟨g, 0, none⟩) r.refs.length cap')).setCell (p := ⟨g, k * 5 + 4, none⟩) (by simp; omega) (.int .i64 u)
        have HZ := filled _ w.heap.size _ _ _ _ _ _ _ _ _ _ (.int .i64 r.n) (.int .i64 r.now) (.slice (some ⟨g, 0, none⟩) r.refs.length cap') (.slice r.A3 r.n3 r.c3) (.int .i64 r.pol.d) (.int .i64 r.pol.k) (.int .i64 r.pol.m) (.int .i64 r.pol.y) (.slice r.A8 r.n8 r.c8) hQ2 (by omega)
        refine bodyPost_ret (set50_results _ _ _ _ _ _ _ _ _ _ _ _ _ rfl rfl HZ.1) rfl ⟨fun h => absurd he h, fun _ => ⟨g, cap', rfl, ?_⟩, hB2.trans HZ.2⟩
        exact own_base (stores_owns ho2 _ (fun p hp e => by have h1 := fill_block _ _ _ _ hp; have h2 : g = p.1.block := (by simpa [Value.ownBlock] using e); exact absurd (h2.trans h1) (by omega))) (by omega)

end Go.Proofs.Ytfjlhcapkfcpkaa
