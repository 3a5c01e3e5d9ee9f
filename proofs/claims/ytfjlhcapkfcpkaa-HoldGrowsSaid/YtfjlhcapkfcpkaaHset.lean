/-
  WALKS: slices.Clone at snapshots (the kit's contract, laid plain), hold.Set.
-/
import Derived.Shelf.SlicesE.Clone
import Derived.Test.YtfjlhcapkfcpkaaSet
namespace Go.Proofs.Ytfjlhcapkfcpkaa
open Go.RowKit Go.Shelf
set_option linter.unusedSimpArgs false
set_option linter.unusedVariables false

def cloneL_ren : Go.Shelf.Ren := ⟨fun | 41 => 24 | n => n, fun | 22 => 22 | 23 => 38 | 4 => 4 | n => n, fun | n => n⟩
theorem cloneL : Go.Proofs.SlLaysE0.n41 Try.prog cloneL_ren := {
  mixed := by kernel_rfl,
  f41 := ⟨Try.f24.name, by decide, Try.func24.trans (congrArg some (by kernel_rfl))⟩,
  t4 := Try.underlying4,
  a4 := Try.isAgg4,
  z4 := Try.sizeOf4,
  v4 := Try.zeroValue4,
  t22 := Try.underlying22,
  a22 := Try.isAgg22,
  z22 := Try.sizeOf22,
  v22 := Try.zeroValue22 }

theorem clone_any (l : List Ref) (hne : l ≠ []) (A : Option Addr) (cap : Nat) (w : World) (hr : Reads w w.heap.size 5 A l.length (l.flatMap Ref.cs)) (hfew : l.length ≤ 60) :
    Calls Try.prog 24 #[.slice A l.length cap] w fun e w' => ∃ g cap', e = .returned (.slice (some ⟨g, 0, none⟩) l.length cap') ∧ w'.ownsRow w.heap.size 38 5 (.slice (some ⟨g, 0, none⟩) l.length cap') l.length (l.flatMap Ref.cs) ∧ Below w.heap.size w w' := by
  obtain ⟨i0, hi, hz0, hz1, hz2⟩ := info_parts infoRef
  have hpos : 0 < l.length := List.length_pos_iff.2 hne
  obtain ⟨b, o, x, rfl, _⟩ := hr.ref rfl hpos
  have h := AnyE.slices_Clone cloneL i0 _ 5 56 hi hz0 hz1 hz2 rfl (by decide) Try.sizeOf38 b o l.length cap (l.flatMap Ref.cs) w hr.1 (by unfold maxLen; omega) (by omega)
    (fun j u hu => by
      obtain ⟨ad, e, _, hc⟩ := hr.2 hpos
      cases e
      have := hc j u hu
      rwa [Addr.add_lit] at this)
    (fun u hu => by
      obtain ⟨x, _, hx⟩ := List.mem_flatMap.1 hu
      simp [Ref.cs] at hx
      rcases hx with rfl | rfl | rfl | rfl | rfl <;> rfl)
  change Calls Try.prog 24 _ _ _ at h
  refine h.mono ?_
  rintro e w' ⟨v, rfl, hown, hv, hb⟩
  obtain ⟨g, cap', rfl, _⟩ := hown.form hpos
  exact ⟨g, cap', rfl, hown, hb⟩

/-- What hold.Set answers: the error's number; the snapshots, if there is none. -/
def Root.setErr (r : Root) (mach : ByteArray) (n until_ : Int) : Int :=
  match r.refs.findIdx? (hit mach n) with
  | none => 9
  | some k => if until_ ≤ r.now then 1 else match r.refs[k]? with | some x => (if until_ < x.u then 20 else 0) | none => 0
def Root.setRow (r : Root) (mach : ByteArray) (n until_ : Int) : List Ref :=
  match r.refs.findIdx? (hit mach n) with
  | none => r.refs
  | some k => r.refs.modify k fun x => { x with u := until_ }
theorem setRow_len (r : Root) (mach : ByteArray) (n u : Int) : (r.setRow mach n u).length = r.refs.length := by
  unfold Root.setRow; split
  · rfl
  · simp

theorem flat_modify (l : List Ref) (k : Nat) (hk : k < l.length) (u : Int) : (l.flatMap Ref.cs).set (k * 5 + 4) (.int .i64 u) = (l.modify k fun x => { x with u := u }).flatMap Ref.cs := by
  induction l generalizing k with
  | nil => simp at hk
  | cons x r ih =>
    cases k with
    | zero => simp [Ref.cs]
    | succ k =>
      have e : (k + 1) * 5 + 4 = (k * 5 + 4) + 5 := by omega
      rw [e]
      simp only [List.modify_succ_cons, List.flatMap_cons]
      rw [← ih k (by simpa using hk)]
      simp [Ref.cs]

theorem idx_cases (l : List Ref) (mach : ByteArray) (n : Int) : (l.findIdx? (hit mach n) = none ∧ place l mach n = -1) ∨ ∃ k, l.findIdx? (hit mach n) = some k ∧ k < l.length ∧ place l mach n = k := by
  unfold place
  cases h : l.findIdx? (hit mach n) with
  | none => exact .inl ⟨rfl, rfl⟩
  | some k =>
    exact .inr ⟨k, rfl, (List.findIdx?_eq_some_iff_getElem.1 h).1, rfl⟩

theorem hset_results (W : World) (q : Nat) (c0 c1 c2 c3 c4 c5 c6 c7 c8 v9 : Value) (tmps : Array Value) (h8 : tmps.getD 8 undef = .pointer (some ⟨q, 0, none⟩)) (h9 : tmps.getD 9 undef = v9)
    (bF : Blk W q 28 #[c0, c1, c2, c3, c4, c5, c6, c7, c8]) :
    (results Try.f12 tmps).run Try.prog W = .ok (.tuple #[.agg #[c0, c1, c2, c3, c4, c5, c6, c7, c8], v9]) W := by
  have q0 := bF.cell 0; have q1 := bF.cell 1; have q2 := bF.cell 2; have q3 := bF.cell 3; have q4 := bF.cell 4; have q5 := bF.cell 5; have q6 := bF.cell 6; have q7 := bF.cell 7; have q8 := bF.cell 8
  simp only [List.getElem?_toArray, List.getElem?_cons_zero, List.getElem?_cons_succ] at q0 q1 q2 q3 q4 q5 q6 q7 q8
  simp only [Array.getD_eq_getD_getElem?] at h8 h9
  simp [results, Try.results12, go_sem, h8, h9, q0, q1, q2, q3, q4, q5, q6, q7, q8]
  try rfl

theorem setMany9 (c0 c1 c2 c3 c4 c5 c6 c7 c8 a b c d e f g h i : Value) : setMany' #[c0, c1, c2, c3, c4, c5, c6, c7, c8] 0 [a, b, c, d, e, f, g, h, i] = #[a, b, c, d, e, f, g, h, i] := by
  simp [setMany']
/-- A root's box that is filled anew. -/
theorem filled (W : World) (B q : Nat) (c0 c1 c2 c3 c4 c5 c6 c7 c8 a0 a1 a2 a3 a4 a5 a6 a7 a8 : Value) (bQ : Blk W q 28 #[c0, c1, c2, c3, c4, c5, c6, c7, c8]) (hB : B ≤ q) :
    Blk (stores W (fill q 0 [a0, a1, a2, a3, a4, a5, a6, a7, a8])) q 28 #[a0, a1, a2, a3, a4, a5, a6, a7, a8] ∧ Below B W (stores W (fill q 0 [a0, a1, a2, a3, a4, a5, a6, a7, a8])) := by
  refine ⟨?_, stores_below _ _ (fun p hp => by have := fill_block _ _ _ _ hp; omega)⟩
  have h0 := stores_fill [a0, a1, a2, a3, a4, a5, a6, a7, a8] _ 0 _ bQ
  rw [setMany9] at h0
  exact h0

set_option maxRecDepth 100000 in
set_option maxHeartbeats 2000000 in
theorem hset_any (r : Root) (mach : ByteArray) (n u : Int) (w : World) (hf : r.fits w w.heap.size) :
    Calls Try.prog 12 #[r.v, .string mach, .int .i64 n, .int .i64 u] w fun e w' =>
      (r.setErr mach n u ≠ 0 → e = .returned (.tuple #[.agg #[.int .i64 0, .int .i64 0, .slice none 0 0, .slice none 0 0, .int .i64 0, .int .i64 0, .int .i64 0, .int .i64 0, .slice none 0 0], .int .i64 (r.setErr mach n u)])) ∧
      (r.setErr mach n u = 0 → ∃ g cap', e = .returned (.tuple #[.agg #[.int .i64 r.n, .int .i64 r.now, .slice (some ⟨g, 0, none⟩) r.refs.length cap', .slice r.A3 r.n3 r.c3, .int .i64 r.pol.d, .int .i64 r.pol.k, .int .i64 r.pol.m, .int .i64 r.pol.y, .slice r.A8 r.n8 r.c8], .int .i64 0]) ∧
        w'.ownsRow w.heap.size 38 5 (.slice (some ⟨g, 0, none⟩) r.refs.length cap') r.refs.length ((r.setRow mach n u).flatMap Ref.cs)) ∧ Below w.heap.size w w' := by
  have hmf : ∀ (fn : Fn) (first cap : Array Value) (w : World), (Instr.makeFunc fn first cap).run Try.prog w = .ok (.func fn first cap) w := fun _ _ _ _ => rfl
  have hfew := hf.few
  have hrd := hf.reads
  go_enter Try.func12, Try.ntmps12
  have bR : Blk (w.alloc (.cells #[.int .i64 r.n, .int .i64 r.now, .slice r.A r.refs.length r.cap, .slice r.A3 r.n3 r.c3, .int .i64 r.pol.d, .int .i64 r.pol.k, .int .i64 r.pol.m, .int .i64 r.pol.y, .slice r.A8 r.n8 r.c8] 28)) w.heap.size 28 #[.int .i64 r.n, .int .i64 r.now, .slice r.A r.refs.length r.cap, .slice r.A3 r.n3 r.c3, .int .i64 r.pol.d, .int .i64 r.pol.k, .int .i64 r.pol.m, .int .i64 r.pol.y, .slice r.A8 r.n8 r.c8] := Blk.new _ _ _
  have bM := Blk.new (w.alloc (.cells #[.int .i64 r.n, .int .i64 r.now, .slice r.A r.refs.length r.cap, .slice r.A3 r.n3 r.c3, .int .i64 r.pol.d, .int .i64 r.pol.k, .int .i64 r.pol.m, .int .i64 r.pol.y, .slice r.A8 r.n8 r.c8] 28)) 9 #[.string mach]
  have bN := Blk.new ((w.alloc (.cells #[.int .i64 r.n, .int .i64 r.now, .slice r.A r.refs.length r.cap, .slice r.A3 r.n3 r.c3, .int .i64 r.pol.d, .int .i64 r.pol.k, .int .i64 r.pol.m, .int .i64 r.pol.y, .slice r.A8 r.n8 r.c8] 28)).alloc (.cells #[.string mach] 9)) 3 #[.int .i64 n]
  have bQ := Blk.new (((w.alloc (.cells #[.int .i64 r.n, .int .i64 r.now, .slice r.A r.refs.length r.cap, .slice r.A3 r.n3 r.c3, .int .i64 r.pol.d, .int .i64 r.pol.k, .int .i64 r.pol.m, .int .i64 r.pol.y, .slice r.A8 r.n8 r.c8] 28)).alloc (.cells #[.string mach] 9)).alloc (.cells #[.int .i64 n] 3)) 28 #[.int .i64 0, .int .i64 0, .slice none 0 0, .slice none 0 0, .int .i64 0, .int .i64 0, .int .i64 0, .int .i64 0, .slice none 0 0]
  replace bR := ((bR.alloc (.cells #[.string mach] 9)).alloc (.cells #[.int .i64 n] 3)).alloc (.cells #[.int .i64 0, .int .i64 0, .slice none 0 0, .slice none 0 0, .int .i64 0, .int .i64 0, .int .i64 0, .int .i64 0, .slice none 0 0] 28)
  replace bM := (bM.alloc (.cells #[.int .i64 n] 3)).alloc (.cells #[.int .i64 0, .int .i64 0, .slice none 0 0, .slice none 0 0, .int .i64 0, .int .i64 0, .int .i64 0, .int .i64 0, .slice none 0 0] 28)
  replace bN := bN.alloc (.cells #[.int .i64 0, .int .i64 0, .slice none 0 0, .slice none 0 0, .int .i64 0, .int .i64 0, .int .i64 0, .int .i64 0, .slice none 0 0] 28)
  simp only [World.size_alloc] at bM bN bQ
  go_wp2_with fail
  have c0 := bM.cell 0
  have c1 := bN.cell 0
  simp only [List.getElem?_toArray, List.getElem?_cons_zero] at c0 c1
  have hb0 : Below w.heap.size w ((((w.alloc (.cells #[.int .i64 r.n, .int .i64 r.now, .slice r.A r.refs.length r.cap, .slice r.A3 r.n3 r.c3, .int .i64 r.pol.d, .int .i64 r.pol.k, .int .i64 r.pol.m, .int .i64 r.pol.y, .slice r.A8 r.n8 r.c8] 28)).alloc (.cells #[.string mach] 9)).alloc (.cells #[.int .i64 n] 3)).alloc (.cells #[.int .i64 0, .int .i64 0, .slice none 0 0, .slice none 0 0, .int .i64 0, .int .i64 0, .int .i64 0, .int .i64 0, .slice none 0 0] 28)) := by (repeat' (first | with_reducible exact Below.refl _ _ | assumption | (with_reducible refine Below.drew ?_) | (with_reducible refine below_drewN ?_ _) | (with_reducible refine Below.alloc ?_ (by first | exact Nat.le_refl _ | (simp; done) | (simp; omega)) _) | (with_reducible refine Below.setCell ?_ (by first | exact Nat.le_refl _ | (simp; done) | (simp; omega)) _)))
  refine (index_any r.refs mach n (w.heap.size + 1) (w.heap.size + 1 + 1) r.A r.cap _ ?_ hf.few c0 c1).mono ?_
  · exact (hrd.below hb0).more hb0.size
  rintro e w1 ⟨rfl, hb1⟩
  replace bR := bR.below hb1 (by simp; omega)
  replace bQ := bQ.below hb1 (by simp)
  have hb := hb0.trans (hb1.mono hb0.size)
  have hw1 : w.heap.size + 4 ≤ w1.heap.size := by have := hb1.size; simp at this; omega
  clear bM bN c0 c1 hb0 hb1
  replace hrd := hrd.below hb
  have r0 := bR.cell 0; have r1 := bR.cell 1; have r2 := bR.cell 2; have r3 := bR.cell 3; have r4 := bR.cell 4; have r5 := bR.cell 5; have r6 := bR.cell 6; have r7 := bR.cell 7; have r8 := bR.cell 8
  have q0 := bQ.cell 0; have q1 := bQ.cell 1; have q2 := bQ.cell 2; have q3 := bQ.cell 3; have q4 := bQ.cell 4; have q5 := bQ.cell 5; have q6 := bQ.cell 6; have q7 := bQ.cell 7; have q8 := bQ.cell 8
  have f2 := bR.frozen 2
  have g0 := bQ.frozen 0; have g1 := bQ.frozen 1; have g2 := bQ.frozen 2; have g3 := bQ.frozen 3; have g4 := bQ.frozen 4; have g5 := bQ.frozen 5; have g6 := bQ.frozen 6; have g7 := bQ.frozen 7; have g8 := bQ.frozen 8
  simp only [List.getElem?_toArray, List.getElem?_cons_zero, List.getElem?_cons_succ] at r0 r1 r2 r3 r4 r5 r6 r7 r8 q0 q1 q2 q3 q4 q5 q6 q7 q8
  rcases idx_cases r.refs mach n with ⟨hnone, hp⟩ | ⟨k, hsome, hk, hp⟩
  · rw [hp]
    have he : r.setErr mach n u = 9 := by unfold Root.setErr; rw [hnone]
    have HE := Lib.hid he
    clear he hp hnone
    go_wp2_with fail
    change bodyPost _ _ _ _ _ (stores w1 (fill (w.heap.size + 1 + 1 + 1) 0 [.int .i64 0, .int .i64 0, .slice none 0 0, .slice none 0 0, .int .i64 0, .int .i64 0, .int .i64 0, .int .i64 0, .slice none 0 0]))
    have he := HE.out
    have HZ := filled w1 w.heap.size _ _ _ _ _ _ _ _ _ _ (.int .i64 0) (.int .i64 0) (.slice none 0 0) (.slice none 0 0) (.int .i64 0) (.int .i64 0) (.int .i64 0) (.int .i64 0) (.slice none 0 0) bQ (by omega)
    exact bodyPost_ret (hset_results _ _ _ _ _ _ _ _ _ _ _ _ _ rfl rfl HZ.1) rfl ⟨fun _ => by rw [he] <;> rfl, fun h => by omega, hb.trans HZ.2⟩
  · rw [hp]
    obtain ⟨b, o, x, hA, hx, hbl, d0, d1, d2, d3, d4⟩ := hrd.ref rfl hk
    have HS := Lib.hid hsome
    have HX := Lib.hid hx
    have HA := Lib.hid hA
    clear hp hx hsome
    by_cases hu : u ≤ r.now
    · have he : r.setErr mach n u = 1 := by unfold Root.setErr; rw [HS.out]; simp [hu]
      have HE := Lib.hid he
      clear he
      obtain ⟨z, hz⟩ : ∃ z : Int, z = (k : Int) := ⟨_, rfl⟩
      have hz0 : ¬ z < 0 := by omega
      rw [← hz]
      have HR := Lib.hid bR; have HQ := Lib.hid bQ; have HB := Lib.hid hb
      clear d0 d1 d2 d3 d4 hrd hz hA hk hbl HX HA HS hfew hf bR bQ hb
      go_wp2_with fail
      have bQ := HQ.out; have hb := HB.out; have he := HE.out
      change bodyPost _ _ _ _ _ (stores w1 (fill (w.heap.size + 1 + 1 + 1) 0 [.int .i64 0, .int .i64 0, .slice none 0 0, .slice none 0 0, .int .i64 0, .int .i64 0, .int .i64 0, .int .i64 0, .slice none 0 0]))
      have HZ := filled w1 w.heap.size _ _ _ _ _ _ _ _ _ _ (.int .i64 0) (.int .i64 0) (.slice none 0 0) (.slice none 0 0) (.int .i64 0) (.int .i64 0) (.int .i64 0) (.int .i64 0) (.slice none 0 0) bQ (by omega)
      exact bodyPost_ret (hset_results _ _ _ _ _ _ _ _ _ _ _ _ _ rfl rfl HZ.1) rfl ⟨fun _ => by rw [he] <;> rfl, fun h => by omega, hb.trans HZ.2⟩
    · have hxu := HX.out
      have hk0 : ¬ ((k : Int) < 0) := by omega
      have HR := Lib.hid bR; have HQ := Lib.hid bQ; have HB := Lib.hid hb; have HD := Lib.hid hrd; have HF := Lib.hid hf
      clear bR bQ hb hrd hf d0 d1 d2 d3
      by_cases hv : u < x.u
      · have he : r.setErr mach n u = 20 := by unfold Root.setErr; rw [HS.out]; simp [hu, hk, ← hxu, hv]
        have HE := Lib.hid he
        clear he hxu HX HA HS HR HD HF
        go_wp2_with fail
        have bQ := HQ.out; have hb := HB.out; have he := HE.out
        change bodyPost _ _ _ _ _ (stores w1 (fill (w.heap.size + 1 + 1 + 1) 0 [.int .i64 0, .int .i64 0, .slice none 0 0, .slice none 0 0, .int .i64 0, .int .i64 0, .int .i64 0, .int .i64 0, .slice none 0 0]))
        have HZ := filled w1 w.heap.size _ _ _ _ _ _ _ _ _ _ (.int .i64 0) (.int .i64 0) (.slice none 0 0) (.slice none 0 0) (.int .i64 0) (.int .i64 0) (.int .i64 0) (.int .i64 0) (.slice none 0 0) bQ (by omega)
        exact bodyPost_ret (hset_results _ _ _ _ _ _ _ _ _ _ _ _ _ rfl rfl HZ.1) rfl ⟨fun _ => by rw [he] <;> rfl, fun h => by omega, hb.trans HZ.2⟩
      · have he : r.setErr mach n u = 0 := by unfold Root.setErr; rw [HS.out]; simp [hu, hk, ← hxu, hv]
        have HE := Lib.hid he
        clear he hxu HX
        have hrd := HD.out
        rw [hA] at hrd
        have hcl := clone_any r.refs (List.ne_nil_of_length_pos (by omega)) (some ⟨b, o, none⟩) r.cap w1 (hrd.more (by omega)) HF.out.few
        have HCL := Lib.hid hcl
        clear hcl hrd
        go_wp2_with fail
        refine HCL.out.mono ?_; rintro e w2 ⟨g, cap', rfl, hown, hb2⟩
        have hgl := hown.lt g rfl
        have hgs : ¬ g = w.heap.size := by omega
        have hgs' : ¬ w.heap.size = g := by omega
        have bR := HR.out.below hb2 (by omega)
        have bQ := HQ.out.below hb2 (by omega)
        have hb := HB.out.trans (hb2.mono (by omega))
        obtain ⟨y, e4⟩ : ∃ y, w2.cell? ⟨g, k * 5 + 4, none⟩ = some y := by
          rw [hown.cellAt _ (by omega)]
          exact ⟨_, List.getElem?_eq_getElem (by have := hown.1; omega)⟩
        have ef := hown.frozenAt (k * 5 + 4)
        clear r0 r1 r2 r3 r4 r5 r6 r7 r8 q0 q1 q2 q3 q4 q5 q6 q7 q8 f2 g0 g1 g2 g3 g4 g5 g6 g7 g8 hb2
        have r0 := bR.cell 0; have r1 := bR.cell 1; have r2 := bR.cell 2; have r3 := bR.cell 3; have r4 := bR.cell 4; have r5 := bR.cell 5; have r6 := bR.cell 6; have r7 := bR.cell 7; have r8 := bR.cell 8
        have q0 := bQ.cell 0; have q1 := bQ.cell 1; have q2 := bQ.cell 2; have q3 := bQ.cell 3; have q4 := bQ.cell 4; have q5 := bQ.cell 5; have q6 := bQ.cell 6; have q7 := bQ.cell 7; have q8 := bQ.cell 8
        have f2 := bR.frozen 2
        have g0 := bQ.frozen 0; have g1 := bQ.frozen 1; have g2 := bQ.frozen 2; have g3 := bQ.frozen 3; have g4 := bQ.frozen 4; have g5 := bQ.frozen 5; have g6 := bQ.frozen 6; have g7 := bQ.frozen 7; have g8 := bQ.frozen 8
        simp only [List.getElem?_toArray, List.getElem?_cons_zero, List.getElem?_cons_succ] at r0 r1 r2 r3 r4 r5 r6 r7 r8 q0 q1 q2 q3 q4 q5 q6 q7 q8
        have HR2 := Lib.hid bR; have HQ2 := Lib.hid bQ; have HB2 := Lib.hid hb; have HO2 := Lib.hid hown
        clear HR HQ HB HD HCL bR bQ hb hown hA HA
        go_wp2_with fail
        change bodyPost _ _ _ _ _ (stores ((w2.setCell ⟨w.heap.size, 2, none⟩ (.slice (some ⟨g, 0, none⟩) r.refs.length cap')).setCell ⟨g, k * 5 + 4, none⟩ (.int .i64 u)) (fill (w.heap.size + 1 + 1 + 1) 0 [.int .i64 r.n, .int .i64 r.now, .slice (some ⟨g, 0, none⟩) r.refs.length cap', .slice r.A3 r.n3 r.c3, .int .i64 r.pol.d, .int .i64 r.pol.k, .int .i64 r.pol.m, .int .i64 r.pol.y, .slice r.A8 r.n8 r.c8]))
        have he := HE.out
        have hrow : r.setRow mach n u = r.refs.modify k fun x => { x with u := u } := by unfold Root.setRow; rw [HS.out]
        have ho1 : (w2.setCell ⟨w.heap.size, 2, none⟩ (.slice (some ⟨g, 0, none⟩) r.refs.length cap')).ownsRow w1.heap.size 38 5 (.slice (some ⟨g, 0, none⟩) r.refs.length cap') r.refs.length (r.refs.flatMap Ref.cs) :=
          stores_owns HO2.out [(⟨w.heap.size, 2, none⟩, .slice (some ⟨g, 0, none⟩) r.refs.length cap')] (fun p hp e => by rcases List.mem_singleton.1 hp with rfl; injection e with e; exact hgs e)
        have ho2 := (ho1.stored (k * 5 + 4) (.int .i64 u)).1
        rw [flat_modify r.refs k hk, ← hrow] at ho2
        have hQ2 := (HQ2.out.far (p := ⟨w.heap.size, 2, none⟩) (show w.heap.size + 1 + 1 + 1 ≠ w.heap.size by omega) (.slice (some ⟨g, 0, none⟩) r.refs.length cap')).far (p := ⟨g, k * 5 + 4, none⟩) (show w.heap.size + 1 + 1 + 1 ≠ g by omega) (.int .i64 u)
        have hB2 := (HB2.out.setCell (p := ⟨w.heap.size, 2, none⟩) (Nat.le_refl _) (.slice (some ⟨g, 0, none⟩) r.refs.length cap')).setCell (p := ⟨g, k * 5 + 4, none⟩) (by simp; omega) (.int .i64 u)
        have HZ := filled _ w.heap.size _ _ _ _ _ _ _ _ _ _ (.int .i64 r.n) (.int .i64 r.now) (.slice (some ⟨g, 0, none⟩) r.refs.length cap') (.slice r.A3 r.n3 r.c3) (.int .i64 r.pol.d) (.int .i64 r.pol.k) (.int .i64 r.pol.m) (.int .i64 r.pol.y) (.slice r.A8 r.n8 r.c8) hQ2 (by omega)
        refine bodyPost_ret (hset_results _ _ _ _ _ _ _ _ _ _ _ _ _ rfl rfl HZ.1) rfl ⟨fun h => absurd he h, fun _ => ⟨g, cap', rfl, ?_⟩, hB2.trans HZ.2⟩
        exact own_base (stores_owns ho2 _ (fun p hp e => by have h1 := fill_block _ _ _ _ hp; have h2 : g = p.1.block := (by simpa [Value.ownBlock] using e); exact absurd (h2.trans h1) (by omega))) (by omega)

end Go.Proofs.Ytfjlhcapkfcpkaa
