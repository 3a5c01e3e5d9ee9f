/-
  HoldLater: the walk, and the plain law.
-/
import Derived.Test.YtfjlhcapkfcpkaaOpen
namespace Go.Proofs.Ytfjlhcapkfcpkaa
open Go.RowKit
set_option linter.unusedSimpArgs false
set_option linter.unusedVariables false

/-- The root after a hold was set. -/
abbrev Root.held (r : Root) (mach : ByteArray) (n u : Int) (g cap : Nat) : Root := ⟨r.n, r.now, some ⟨g, 0, none⟩, cap, r.setRow mach n u, r.A3, r.n3, r.c3, r.pol, r.A8, r.n8, r.c8⟩

theorem hit_set (mach : ByteArray) (n u : Int) (x : Ref) : hit mach n { x with u := u } = hit mach n x := rfl
theorem find_modify (l : List Ref) (mach : ByteArray) (n u : Int) (k : Nat) : (l.modify k fun x => { x with u := u }).findIdx? (hit mach n) = l.findIdx? (hit mach n) := by
  induction l generalizing k with
  | nil => simp
  | cons x l ih =>
    cases k with
    | zero =>
      rw [List.modify_zero_cons, List.findIdx?_cons, List.findIdx?_cons]
      rfl
    | succ k => simp [List.findIdx?_cons, ih]
theorem setErr_cases (r : Root) (mach : ByteArray) (n u : Int) (h : r.setErr mach n u = 0) :
    ∃ k x, r.refs.findIdx? (hit mach n) = some k ∧ r.refs[k]? = some x ∧ ¬ u ≤ r.now ∧ ¬ u < x.u := by
  unfold Root.setErr at h
  split at h
  · cases h
  · rename_i k hk
    have hlt : k < r.refs.length := (List.findIdx?_eq_some_iff_getElem.1 hk).1
    split at h
    · cases h
    · rename_i hu
      rw [List.getElem?_eq_getElem hlt] at h
      simp only at h
      split at h
      · cases h
      · rename_i hx
        exact ⟨k, _, hk, List.getElem?_eq_getElem hlt, hu, hx⟩
/-- Set again. -/
theorem setErr_again (r : Root) (mach : ByteArray) (n u o : Int) (g cap : Nat) (h : r.setErr mach n u = 0) :
    (r.held mach n u g cap).setErr mach n o = (if o ≤ r.now then 1 else if o < u then 20 else 0) ∧ (r.held mach n u g cap).setRow mach n u = r.setRow mach n u := by
  obtain ⟨k, x, hk, hx, hu, hxu⟩ := setErr_cases r mach n u h
  have hrow : r.setRow mach n u = r.refs.modify k fun x => { x with u := u } := by unfold Root.setRow; rw [hk]
  have hf : (r.setRow mach n u).findIdx? (hit mach n) = some k := by rw [hrow, find_modify, hk]
  have hlt : k < r.refs.length := (List.findIdx?_eq_some_iff_getElem.1 hk).1
  have hg : (r.setRow mach n u)[k]? = some { x with u := u } := by rw [hrow]; simp [hx]
  constructor
  · unfold Root.setErr; simp only [hf, hg]
  · have e : (r.held mach n u g cap).setRow mach n u = (r.setRow mach n u).modify k fun x => { x with u := u } := by
      show (match (r.setRow mach n u).findIdx? (hit mach n) with | none => r.setRow mach n u | some k => (r.setRow mach n u).modify k fun x => { x with u := u }) = _
      rw [hf]
    rw [e, hrow, List.modify_modify_eq]
    rfl
theorem setErr_zero (r : Root) (mach : ByteArray) (n u o : Int) (g cap : Nat) (h : r.setErr mach n u = 0) : (r.held mach n u g cap).setErr mach n u = 0 := by
  obtain ⟨k, x, hk, hx, hu, hxu⟩ := setErr_cases r mach n u h
  rw [(setErr_again r mach n u u g cap h).1, if_neg hu, if_neg (by omega)]
theorem setRow_ok (r : Root) (mach : ByteArray) (n u : Int) (hu : okI u) (h : ∀ x ∈ r.refs, x.ok) : ∀ x ∈ r.setRow mach n u, x.ok := by
  unfold Root.setRow
  split
  · exact h
  · intro x hx
    obtain ⟨i, hi, rfl⟩ := List.getElem_of_mem hx
    rw [List.getElem_modify]
    have h0 := h _ (List.getElem_mem (by simpa using hi))
    split
    · exact ⟨h0.1, h0.2.1, h0.2.2.1, h0.2.2.2.1, hu⟩
    · exact h0

theorem held_v (r : Root) (mach : ByteArray) (n u : Int) (g cap : Nat) : (r.held mach n u g cap).v = .agg #[.int .i64 r.n, .int .i64 r.now, .slice (some ⟨g, 0, none⟩) r.refs.length cap, .slice r.A3 r.n3 r.c3, .int .i64 r.pol.d, .int .i64 r.pol.k, .int .i64 r.pol.m, .int .i64 r.pol.y, .slice r.A8 r.n8 r.c8] := by
  have h := setRow_len r mach n u
  simp only [Root.v, Root.held, h]
theorem held_fits (r : Root) (mach : ByteArray) (n u : Int) (g cap : Nat) (hu : okI u) (hok : ∀ x ∈ r.refs, x.ok) (hfew : r.refs.length ≤ 60) (W : World) (hr : Reads W W.heap.size 5 (some ⟨g, 0, none⟩) r.refs.length ((r.setRow mach n u).flatMap Ref.cs)) :
    (r.held mach n u g cap).fits W W.heap.size := by
  have h := setRow_len r mach n u
  refine ⟨?_, setRow_ok r mach n u hu hok, ?_⟩
  · show Reads W W.heap.size 5 (some ⟨g, 0, none⟩) (r.setRow mach n u).length _
    rw [h]; exact hr
  · show (r.setRow mach n u).length ≤ 60
    rw [h]; exact hfew
/-- Set again, for whatever. -/
theorem hset_again (r : Root) (mach : ByteArray) (n u o : Int) (g cap : Nat) (he : r.setErr mach n u = 0) (hu : okI u) (hok : ∀ x ∈ r.refs, x.ok) (hfew : r.refs.length ≤ 60) (W : World) (hr : Reads W W.heap.size 5 (some ⟨g, 0, none⟩) r.refs.length ((r.setRow mach n u).flatMap Ref.cs)) :
    Calls Try.prog 12 #[.agg #[.int .i64 r.n, .int .i64 r.now, .slice (some ⟨g, 0, none⟩) r.refs.length cap, .slice r.A3 r.n3 r.c3, .int .i64 r.pol.d, .int .i64 r.pol.k, .int .i64 r.pol.m, .int .i64 r.pol.y, .slice r.A8 r.n8 r.c8], .string mach, .int .i64 n, .int .i64 o] W fun e w' => ((if o ≤ r.now then (1 : Int) else if o < u then 20 else 0) ≠ 0 → e = .returned (.tuple #[.agg #[.int .i64 0, .int .i64 0, .slice none 0 0, .slice none 0 0, .int .i64 0, .int .i64 0, .int .i64 0, .int .i64 0, .slice none 0 0], .int .i64 (if o ≤ r.now then 1 else if o < u then 20 else 0)])) ∧
      ((if o ≤ r.now then (1 : Int) else if o < u then 20 else 0) = 0 → ∃ g2 cap2, e = .returned (.tuple #[.agg #[.int .i64 r.n, .int .i64 r.now, .slice (some ⟨g2, 0, none⟩) r.refs.length cap2, .slice r.A3 r.n3 r.c3, .int .i64 r.pol.d, .int .i64 r.pol.k, .int .i64 r.pol.m, .int .i64 r.pol.y, .slice r.A8 r.n8 r.c8], .int .i64 0])) ∧ Below W.heap.size W w' := by
  have hl := setRow_len r mach n u
  have h := hset_any (r.held mach n u g cap) mach n o W (held_fits r mach n u g cap hu hok hfew W hr)
  rw [held_v, (setErr_again r mach n u o g cap he).1] at h
  refine h.mono ?_
  rintro e w' ⟨h1, h2, hb⟩
  refine ⟨h1, fun hz => ?_, hb⟩
  obtain ⟨g', cap', h3, _⟩ := h2 hz
  simp only [Root.held, hl] at h3
  exact ⟨g', cap', h3⟩
/-- Set again, for as long. -/
theorem hset_same (r : Root) (mach : ByteArray) (n u : Int) (g cap : Nat) (he : r.setErr mach n u = 0) (hu : okI u) (hok : ∀ x ∈ r.refs, x.ok) (hfew : r.refs.length ≤ 60) (W : World) (hr : Reads W W.heap.size 5 (some ⟨g, 0, none⟩) r.refs.length ((r.setRow mach n u).flatMap Ref.cs)) :
    Calls Try.prog 12 #[.agg #[.int .i64 r.n, .int .i64 r.now, .slice (some ⟨g, 0, none⟩) r.refs.length cap, .slice r.A3 r.n3 r.c3, .int .i64 r.pol.d, .int .i64 r.pol.k, .int .i64 r.pol.m, .int .i64 r.pol.y, .slice r.A8 r.n8 r.c8], .string mach, .int .i64 n, .int .i64 u] W fun e w' => (∃ g2 cap2, e = .returned (.tuple #[.agg #[.int .i64 r.n, .int .i64 r.now, .slice (some ⟨g2, 0, none⟩) r.refs.length cap2, .slice r.A3 r.n3 r.c3, .int .i64 r.pol.d, .int .i64 r.pol.k, .int .i64 r.pol.m, .int .i64 r.pol.y, .slice r.A8 r.n8 r.c8], .int .i64 0]) ∧
      w'.ownsRow W.heap.size 38 5 (.slice (some ⟨g2, 0, none⟩) r.refs.length cap2) r.refs.length ((r.setRow mach n u).flatMap Ref.cs)) ∧ Below W.heap.size W w' := by
  have h := hset_any (r.held mach n u g cap) mach n u W (held_fits r mach n u g cap hu hok hfew W hr)
  have hl := setRow_len r mach n u
  rw [held_v, setErr_zero r mach n u u g cap he, (setErr_again r mach n u u g cap he).2] at h
  refine h.mono ?_
  rintro e w' ⟨_, h2, hb⟩
  obtain ⟨g', cap', h3, h4⟩ := h2 rfl
  simp only [Root.held, hl] at h3 h4
  exact ⟨⟨g', cap', h3, h4⟩, hb⟩

set_option maxRecDepth 100000 in
set_option maxHeartbeats 2000000 in
theorem later_any (r : Root) (k u o : Int) (hk : 0 ≤ k ∧ k < 256) (hu : okI u) (hou : okI o) (w : World) (hr : Reads w w.heap.size 5 r.A r.refs.length (r.refs.flatMap Ref.cs)) (hok : ∀ x ∈ r.refs, x.ok) (hlen : r.refs.length ≤ maxLen) :
    Calls Try.prog 4 #[r.v, .int .u8 k, .int .i64 u, .int .i64 o] w fun e w' => e = .returned (.bool true) ∧ Below w.heap.size w w' := by
  go_enter Try.func4, Try.ntmps4
  have bR := Blk.new w 28 #[.int .i64 r.n, .int .i64 r.now, .slice r.A r.refs.length r.cap, .slice r.A3 r.n3 r.c3, .int .i64 r.pol.d, .int .i64 r.pol.k, .int .i64 r.pol.m, .int .i64 r.pol.y, .slice r.A8 r.n8 r.c8]
  have hb0 : Below w.heap.size w (w.alloc (.cells #[.int .i64 r.n, .int .i64 r.now, .slice r.A r.refs.length r.cap, .slice r.A3 r.n3 r.c3, .int .i64 r.pol.d, .int .i64 r.pol.k, .int .i64 r.pol.m, .int .i64 r.pol.y, .slice r.A8 r.n8 r.c8] 28)) := by (repeat' (first | with_reducible exact Below.refl _ _ | assumption | (with_reducible refine Below.drew ?_) | (with_reducible refine below_drewN ?_ _) | (with_reducible refine Below.alloc ?_ (by first | exact Nat.le_refl _ | (simp; done) | (simp; omega)) _) | (with_reducible refine Below.setCell ?_ (by first | exact Nat.le_refl _ | (simp; done) | (simp; omega)) _)))
  have HR := Lib.hid hr
  clear hr
  go_wp2_with fail
  refine (alive_any _).mono ?_; rintro e w1 ⟨rfl, hb1⟩
  have bR1 := bR.below hb1 (by simp)
  have hb1' := hb0.trans (hb1.mono hb0.size)
  clear bR hb0 hb1
  have c2 := bR1.cell 2
  simp only [List.getElem?_toArray, List.getElem?_cons_zero, List.getElem?_cons_succ] at c2
  go_wp2_with fail
  refine (great_any r.refs r.A r.cap _ ((HR.out.below hb1').more hb1'.size) hlen).mono ?_; rintro e w2 ⟨⟨v, rfl, hv⟩, hb2⟩
  have bR2 := bR1.below hb2 bR1.lt
  have hb2' := hb1'.trans (hb2.mono hb1'.size)
  clear bR1 hb1' hb2 c2
  have c2 := bR2.cell 2
  simp only [List.getElem?_toArray, List.getElem?_cons_zero, List.getElem?_cons_succ] at c2
  rcases hv with rfl | ⟨rfl, hfew⟩
  · go_wp2_with fail
    go_ret
    exact ⟨rfl, hb2'⟩
  by_cases hz : r.refs.length = 0
  · have hz' : ((r.refs.length : Int) == 0) = true := by simp [hz]
    rw [hz] at c2
    go_wp2_with fail
    go_ret
    exact ⟨rfl, hb2'⟩
  have hz' : ((r.refs.length : Int) == 0) = false := by rw [beq_eq_false_iff_ne]; omega
  have hz0 : ¬ (r.refs.length : Int) = 0 := by omega
  obtain ⟨k, rfl⟩ : ∃ j : Nat, k = (j : Int) := ⟨k.toNat, by omega⟩
  have hm : (k : Int).tmod (r.refs.length : Int) = ((k % r.refs.length : Nat) : Int) := by rw [Int.tmod_eq_emod_of_nonneg (by omega)]; exact (Int.natCast_emod _ _).symm
  obtain ⟨i, hi⟩ : ∃ i, i = k % r.refs.length := ⟨_, rfl⟩
  have hil : i < r.refs.length := by rw [hi]; exact Nat.mod_lt _ (by omega)
  rw [← hi] at hm
  clear hi
  obtain ⟨b, o', x, hA, hx, hbl, d0, d1, d2, d3, d4⟩ := ((HR.out.below hb2').more hb2'.size).ref rfl hil
  have HX := Lib.hid hx; have HB2 := Lib.hid hb2'; have HR2 := Lib.hid bR2; have HA := Lib.hid hA
  have hil' : (i : Int) < (r.refs.length : Int) := by omega
  have hi0 : (0 : Int) ≤ (i : Int) := by omega
  clear hx hb2' bR2
  have hwr : IntKind.i64.wrap (k : Int) = (k : Int) := by rw [IntKind.wrap_i64]; omega
  have e2 := (World.cell?_alloc_lt w2 (.cells #[.string ⟨#[]⟩, .int .i64 0, .int .i64 0, .string ⟨#[]⟩, .int .i64 0] 38) ⟨w.heap.size, 2, none⟩ HR2.out.lt).trans c2
  have hbl2 : b < w2.heap.size := hbl
  have e20 := (World.cell?_alloc_lt w2 (.cells #[.string ⟨#[]⟩, .int .i64 0, .int .i64 0, .string ⟨#[]⟩, .int .i64 0] 38) ⟨b, o' + i * 5, none⟩ hbl2).trans d0
  have e21 := (World.cell?_alloc_lt w2 (.cells #[.string ⟨#[]⟩, .int .i64 0, .int .i64 0, .string ⟨#[]⟩, .int .i64 0] 38) ⟨b, o' + i * 5 + 1, none⟩ hbl2).trans d1
  have e22 := (World.cell?_alloc_lt w2 (.cells #[.string ⟨#[]⟩, .int .i64 0, .int .i64 0, .string ⟨#[]⟩, .int .i64 0] 38) ⟨b, o' + i * 5 + 2, none⟩ hbl2).trans d2
  have e23 := (World.cell?_alloc_lt w2 (.cells #[.string ⟨#[]⟩, .int .i64 0, .int .i64 0, .string ⟨#[]⟩, .int .i64 0] 38) ⟨b, o' + i * 5 + 3, none⟩ hbl2).trans d3
  have e24 := (World.cell?_alloc_lt w2 (.cells #[.string ⟨#[]⟩, .int .i64 0, .int .i64 0, .string ⟨#[]⟩, .int .i64 0] 38) ⟨b, o' + i * 5 + 4, none⟩ hbl2).trans d4
  go_wp2_with fail
  go_region
  have bR3 := (HR2.out.alloc (.cells #[.string x.m, .int .i64 x.n, .int .i64 x.t, .string x.nm, .int .i64 x.u] 38)).drew
  have bX := (Blk.new w2 38 #[.string x.m, .int .i64 x.n, .int .i64 x.t, .string x.nm, .int .i64 x.u]).drew
  have hb3 : Below w.heap.size w (w2.alloc (.cells #[.string x.m, .int .i64 x.n, .int .i64 x.t, .string x.nm, .int .i64 x.u] 38)).drew := (HB2.out.alloc HB2.out.size _).drew
  have hs3 : (w2.alloc (.cells #[.string x.m, .int .i64 x.n, .int .i64 x.t, .string x.nm, .int .i64 x.u] 38)).drew.heap.size = w2.heap.size + 1 := by simp
  obtain ⟨W3, hW3⟩ : ∃ W, W = (w2.alloc (.cells #[.string x.m, .int .i64 x.n, .int .i64 x.t, .string x.nm, .int .i64 x.u] 38)).drew := ⟨_, rfl⟩
  rw [← hW3] at bR3 bX hb3 hs3 ⊢
  rw [← hA]
  have hs2 := HB2.out.size
  have hw2 : w.heap.size < w2.heap.size := HR2.out.lt
  clear hW3 hA e20 e21 e22 e23 e24 e2 d0 d1 d2 d3 d4 c2 HR2 HB2 hm hwr hi0 hil' hbl hbl2
  have r0 := bR3.cell 0; have r1 := bR3.cell 1; have r2 := bR3.cell 2; have r3 := bR3.cell 3; have r4 := bR3.cell 4; have r5 := bR3.cell 5; have r6 := bR3.cell 6; have r7 := bR3.cell 7; have r8 := bR3.cell 8
  have x0 := bX.cell 0; have x1 := bX.cell 1
  simp only [List.getElem?_toArray, List.getElem?_cons_zero, List.getElem?_cons_succ] at r0 r1 r2 r3 r4 r5 r6 r7 r8 x0 x1
  have HR3 := Lib.hid bR3; have HX3 := Lib.hid bX; have HB3 := Lib.hid hb3
  clear bR3 bX hb3
  have hrd3 := (HR.out.below HB3.out).more HB3.out.size
  have HD3 := Lib.hid hrd3
  clear hrd3
  go_wp2_with fail
  refine (hset_any r x.m x.n u W3 ⟨HD3.out, hok, hfew⟩).mono ?_
  rintro e w4 ⟨hbad, hgood, hb4⟩
  have HB4 := Lib.hid (HB3.out.trans (hb4.mono HB3.out.size))
  have HR4 := Lib.hid (HR3.out.below hb4 (by omega)); have HX4 := Lib.hid (HX3.out.below hb4 (by omega))
  have hs4 := hb4.size
  clear r0 r1 r2 r3 r4 r5 r6 r7 r8 x0 x1
  by_cases he : r.setErr x.m x.n u = 0
  · obtain ⟨g, cap, rfl, ho⟩ := hgood he
    have hgl := (ho.lt g rfl)
    -- the box of the root that came
    have bS := Blk.new w4 28 #[.int .i64 r.n, .int .i64 r.now, .slice (some ⟨g, 0, none⟩) r.refs.length cap, .slice r.A3 r.n3 r.c3, .int .i64 r.pol.d, .int .i64 r.pol.k, .int .i64 r.pol.m, .int .i64 r.pol.y, .slice r.A8 r.n8 r.c8]
    have ho4 := ho.alloc (.cells #[.int .i64 r.n, .int .i64 r.now, .slice (some ⟨g, 0, none⟩) r.refs.length cap, .slice r.A3 r.n3 r.c3, .int .i64 r.pol.d, .int .i64 r.pol.k, .int .i64 r.pol.m, .int .i64 r.pol.y, .slice r.A8 r.n8 r.c8] 28)
    have hb5 := HB4.out.alloc HB4.out.size (.cells #[.int .i64 r.n, .int .i64 r.now, .slice (some ⟨g, 0, none⟩) r.refs.length cap, .slice r.A3 r.n3 r.c3, .int .i64 r.pol.d, .int .i64 r.pol.k, .int .i64 r.pol.m, .int .i64 r.pol.y, .slice r.A8 r.n8 r.c8] 28)
    have bR5 := HR4.out.alloc (.cells #[.int .i64 r.n, .int .i64 r.now, .slice (some ⟨g, 0, none⟩) r.refs.length cap, .slice r.A3 r.n3 r.c3, .int .i64 r.pol.d, .int .i64 r.pol.k, .int .i64 r.pol.m, .int .i64 r.pol.y, .slice r.A8 r.n8 r.c8] 28)
    have bX5 := HX4.out.alloc (.cells #[.int .i64 r.n, .int .i64 r.now, .slice (some ⟨g, 0, none⟩) r.refs.length cap, .slice r.A3 r.n3 r.c3, .int .i64 r.pol.d, .int .i64 r.pol.k, .int .i64 r.pol.m, .int .i64 r.pol.y, .slice r.A8 r.n8 r.c8] 28)
    have s0 := bS.cell 0; have s1 := bS.cell 1; have s2 := bS.cell 2; have s3 := bS.cell 3; have s4 := bS.cell 4; have s5 := bS.cell 5; have s6 := bS.cell 6; have s7 := bS.cell 7; have s8 := bS.cell 8
    have x0 := bX5.cell 0; have x1 := bX5.cell 1
    simp only [List.getElem?_toArray, List.getElem?_cons_zero, List.getElem?_cons_succ] at s0 s1 s2 s3 s4 s5 s6 s7 s8 x0 x1
    have HO := Lib.hid ho4; have HB5 := Lib.hid hb5; have HR5 := Lib.hid bR5; have HX5 := Lib.hid bX5; have HS5 := Lib.hid bS
    clear hgood hbad hb4 HB4 HR4 HX4 ho ho4 hb5 bR5 bX5 bS
    go_wp2_with fail
    refine (hset_same r x.m x.n u g cap he hu hok hfew _ (Reads.of_own HO.out)).mono ?_
    rintro e w6 ⟨⟨g2, cap2, rfl, ho6⟩, hb6⟩
    have bT := Blk.new w6 28 #[.int .i64 r.n, .int .i64 r.now, .slice (some ⟨g2, 0, none⟩) r.refs.length cap2, .slice r.A3 r.n3 r.c3, .int .i64 r.pol.d, .int .i64 r.pol.k, .int .i64 r.pol.m, .int .i64 r.pol.y, .slice r.A8 r.n8 r.c8]
    have hb7 := (HB5.out.trans (hb6.mono HB5.out.size)).alloc (by have := HB5.out.size; have := hb6.size; omega) (.cells #[.int .i64 r.n, .int .i64 r.now, .slice (some ⟨g2, 0, none⟩) r.refs.length cap2, .slice r.A3 r.n3 r.c3, .int .i64 r.pol.d, .int .i64 r.pol.k, .int .i64 r.pol.m, .int .i64 r.pol.y, .slice r.A8 r.n8 r.c8] 28)
    have hsw := hb6.size
    have bR7 := (HR5.out.below hb6 HR5.out.lt).alloc (.cells #[.int .i64 r.n, .int .i64 r.now, .slice (some ⟨g2, 0, none⟩) r.refs.length cap2, .slice r.A3 r.n3 r.c3, .int .i64 r.pol.d, .int .i64 r.pol.k, .int .i64 r.pol.m, .int .i64 r.pol.y, .slice r.A8 r.n8 r.c8] 28)
    have bX7 := (HX5.out.below hb6 HX5.out.lt).alloc (.cells #[.int .i64 r.n, .int .i64 r.now, .slice (some ⟨g2, 0, none⟩) r.refs.length cap2, .slice r.A3 r.n3 r.c3, .int .i64 r.pol.d, .int .i64 r.pol.k, .int .i64 r.pol.m, .int .i64 r.pol.y, .slice r.A8 r.n8 r.c8] 28)
    have bS7 := (HS5.out.below hb6 HS5.out.lt).alloc (.cells #[.int .i64 r.n, .int .i64 r.now, .slice (some ⟨g2, 0, none⟩) r.refs.length cap2, .slice r.A3 r.n3 r.c3, .int .i64 r.pol.d, .int .i64 r.pol.k, .int .i64 r.pol.m, .int .i64 r.pol.y, .slice r.A8 r.n8 r.c8] 28)
    have hrd7 := ((Reads.of_own HO.out).below hb6).alloc hsw (.cells #[.int .i64 r.n, .int .i64 r.now, .slice (some ⟨g2, 0, none⟩) r.refs.length cap2, .slice r.A3 r.n3 r.c3, .int .i64 r.pol.d, .int .i64 r.pol.k, .int .i64 r.pol.m, .int .i64 r.pol.y, .slice r.A8 r.n8 r.c8] 28)
    have ho7 := ho6.alloc (.cells #[.int .i64 r.n, .int .i64 r.now, .slice (some ⟨g2, 0, none⟩) r.refs.length cap2, .slice r.A3 r.n3 r.c3, .int .i64 r.pol.d, .int .i64 r.pol.k, .int .i64 r.pol.m, .int .i64 r.pol.y, .slice r.A8 r.n8 r.c8] 28)
    clear s0 s1 s2 s3 s4 s5 s6 s7 s8 x0 x1
    have s0 := bS7.cell 0; have s1 := bS7.cell 1; have s2 := bS7.cell 2; have s3 := bS7.cell 3; have s4 := bS7.cell 4; have s5 := bS7.cell 5; have s6 := bS7.cell 6; have s7 := bS7.cell 7; have s8 := bS7.cell 8
    have x0 := bX7.cell 0; have x1 := bX7.cell 1
    simp only [List.getElem?_toArray, List.getElem?_cons_zero, List.getElem?_cons_succ] at s0 s1 s2 s3 s4 s5 s6 s7 s8 x0 x1
    have HB7 := Lib.hid hb7; have HR7 := Lib.hid bR7; have HX7 := Lib.hid bX7; have HS7 := Lib.hid bS7; have HT7 := Lib.hid bT; have HD7 := Lib.hid hrd7; have HO7 := Lib.hid ho7
    clear HO HB5 HR5 HX5 HS5 hb6 hb7 bR7 bX7 bS7 bT hrd7 ho7 ho6
    go_wp2_with fail
    refine (hset_again r x.m x.n u o g cap he hu hok hfew _ (HD7.out.more (Nat.le_trans hsw (by simp)))).mono ?_
    rintro e w8 ⟨hbad8, hgood8, hb8⟩
    have hnl := setRow_len r x.m x.n u
    by_cases ho1 : o ≤ r.now
    · have h := hbad8 (by rw [if_pos ho1]; decide)
      rw [if_pos ho1] at h
      subst h
      clear hbad8 hgood8
      have hb9 := (HB7.out.trans (hb8.mono HB7.out.size)).alloc (by have := HB7.out.size; have := hb8.size; omega) (.cells #[.int .i64 0, .int .i64 0, .slice none 0 0, .slice none 0 0, .int .i64 0, .int .i64 0, .int .i64 0, .int .i64 0, .slice none 0 0] 28)
      have bR9 := (HR7.out.below hb8 HR7.out.lt).alloc (.cells #[.int .i64 0, .int .i64 0, .slice none 0 0, .slice none 0 0, .int .i64 0, .int .i64 0, .int .i64 0, .int .i64 0, .slice none 0 0] 28)
      have bS9 := (HS7.out.below hb8 HS7.out.lt).alloc (.cells #[.int .i64 0, .int .i64 0, .slice none 0 0, .slice none 0 0, .int .i64 0, .int .i64 0, .int .i64 0, .int .i64 0, .slice none 0 0] 28)
      have bT9 := (HT7.out.below hb8 HT7.out.lt).alloc (.cells #[.int .i64 0, .int .i64 0, .slice none 0 0, .slice none 0 0, .int .i64 0, .int .i64 0, .int .i64 0, .int .i64 0, .slice none 0 0] 28)
      have rd1 := ((HD7.out.more (Nat.le_trans hsw (by simp))).below hb8).alloc hb8.size (.cells #[.int .i64 0, .int .i64 0, .slice none 0 0, .slice none 0 0, .int .i64 0, .int .i64 0, .int .i64 0, .int .i64 0, .slice none 0 0] 28)
      have rd2 := ((Reads.of_own HO7.out).below hb8).alloc hb8.size (.cells #[.int .i64 0, .int .i64 0, .slice none 0 0, .slice none 0 0, .int .i64 0, .int .i64 0, .int .i64 0, .int .i64 0, .slice none 0 0] 28)
      have hz8 := hb8.size
      clear s0 s1 s2 s3 s4 s5 s6 s7 s8 x0 x1
      have r1 := bR9.cell 1; have s2 := bS9.cell 2; have t2 := bT9.cell 2
      simp only [List.getElem?_toArray, List.getElem?_cons_zero, List.getElem?_cons_succ] at r1 s2 t2
      have HB9 := Lib.hid hb9; have H1 := Lib.hid rd1; have H2 := Lib.hid rd2
      clear hb8 HB7 HR7 HX7 HS7 HT7 HD7 HO7 hb9 bR9 bS9 bT9 rd1 rd2
      go_wp2_with fail
      have hrefs := refs50_any (r.setRow x.m x.n u) (some ⟨g, 0, none⟩) (some ⟨g2, 0, none⟩) cap cap2 (w8.alloc (.cells #[.int .i64 0, .int .i64 0, .slice none 0 0, .slice none 0 0, .int .i64 0, .int .i64 0, .int .i64 0, .int .i64 0, .slice none 0 0] 28))
        (by rw [hnl]; exact H1.out.more (Nat.le_trans hz8 (by simp))) (by rw [hnl]; exact H2.out.more (Nat.le_trans hz8 (by simp))) (by rw [hnl]; exact hfew)
      rw [hnl] at hrefs
      refine hrefs.mono ?_; rintro e w10 ⟨rfl, hb10⟩
      have HF := Lib.hid (HB9.out.trans (hb10.mono HB9.out.size))
      clear hrefs hb10 H1 H2 HB9
      go_wp2_with fail
      go_ret
      exact ⟨rfl, HF.out⟩
    · by_cases ho2 : o < u
      · have h := hbad8 (by rw [if_neg ho1, if_pos ho2]; decide)
        rw [if_neg ho1, if_pos ho2] at h
        subst h
        clear hbad8 hgood8
        have hb9 := (HB7.out.trans (hb8.mono HB7.out.size)).alloc (by have := HB7.out.size; have := hb8.size; omega) (.cells #[.int .i64 0, .int .i64 0, .slice none 0 0, .slice none 0 0, .int .i64 0, .int .i64 0, .int .i64 0, .int .i64 0, .slice none 0 0] 28)
        have bR9 := (HR7.out.below hb8 HR7.out.lt).alloc (.cells #[.int .i64 0, .int .i64 0, .slice none 0 0, .slice none 0 0, .int .i64 0, .int .i64 0, .int .i64 0, .int .i64 0, .slice none 0 0] 28)
        have bS9 := (HS7.out.below hb8 HS7.out.lt).alloc (.cells #[.int .i64 0, .int .i64 0, .slice none 0 0, .slice none 0 0, .int .i64 0, .int .i64 0, .int .i64 0, .int .i64 0, .slice none 0 0] 28)
        have bT9 := (HT7.out.below hb8 HT7.out.lt).alloc (.cells #[.int .i64 0, .int .i64 0, .slice none 0 0, .slice none 0 0, .int .i64 0, .int .i64 0, .int .i64 0, .int .i64 0, .slice none 0 0] 28)
        have rd1 := ((HD7.out.more (Nat.le_trans hsw (by simp))).below hb8).alloc hb8.size (.cells #[.int .i64 0, .int .i64 0, .slice none 0 0, .slice none 0 0, .int .i64 0, .int .i64 0, .int .i64 0, .int .i64 0, .slice none 0 0] 28)
        have rd2 := ((Reads.of_own HO7.out).below hb8).alloc hb8.size (.cells #[.int .i64 0, .int .i64 0, .slice none 0 0, .slice none 0 0, .int .i64 0, .int .i64 0, .int .i64 0, .int .i64 0, .slice none 0 0] 28)
        have hz8 := hb8.size
        clear s0 s1 s2 s3 s4 s5 s6 s7 s8 x0 x1
        have r1 := bR9.cell 1; have s2 := bS9.cell 2; have t2 := bT9.cell 2
        simp only [List.getElem?_toArray, List.getElem?_cons_zero, List.getElem?_cons_succ] at r1 s2 t2
        have HB9 := Lib.hid hb9; have H1 := Lib.hid rd1; have H2 := Lib.hid rd2
        clear hb8 HB7 HR7 HX7 HS7 HT7 HD7 HO7 hb9 bR9 bS9 bT9 rd1 rd2
        go_wp2_with fail
        have hrefs := refs50_any (r.setRow x.m x.n u) (some ⟨g, 0, none⟩) (some ⟨g2, 0, none⟩) cap cap2 (w8.alloc (.cells #[.int .i64 0, .int .i64 0, .slice none 0 0, .slice none 0 0, .int .i64 0, .int .i64 0, .int .i64 0, .int .i64 0, .slice none 0 0] 28))
          (by rw [hnl]; exact H1.out.more (Nat.le_trans hz8 (by simp))) (by rw [hnl]; exact H2.out.more (Nat.le_trans hz8 (by simp))) (by rw [hnl]; exact hfew)
        rw [hnl] at hrefs
        refine hrefs.mono ?_; rintro e w10 ⟨rfl, hb10⟩
        have HF := Lib.hid (HB9.out.trans (hb10.mono HB9.out.size))
        clear hrefs hb10 H1 H2 HB9
        go_wp2_with fail
        go_ret
        exact ⟨rfl, HF.out⟩
      · obtain ⟨g3, cap3, rfl⟩ := hgood8 (by rw [if_neg ho1, if_neg ho2])
        clear hbad8 hgood8
        have hb9 := (HB7.out.trans (hb8.mono HB7.out.size)).alloc (by have := HB7.out.size; have := hb8.size; omega) (.cells #[.int .i64 r.n, .int .i64 r.now, .slice (some ⟨g3, 0, none⟩) r.refs.length cap3, .slice r.A3 r.n3 r.c3, .int .i64 r.pol.d, .int .i64 r.pol.k, .int .i64 r.pol.m, .int .i64 r.pol.y, .slice r.A8 r.n8 r.c8] 28)
        have bR9 := (HR7.out.below hb8 HR7.out.lt).alloc (.cells #[.int .i64 r.n, .int .i64 r.now, .slice (some ⟨g3, 0, none⟩) r.refs.length cap3, .slice r.A3 r.n3 r.c3, .int .i64 r.pol.d, .int .i64 r.pol.k, .int .i64 r.pol.m, .int .i64 r.pol.y, .slice r.A8 r.n8 r.c8] 28)
        have bS9 := (HS7.out.below hb8 HS7.out.lt).alloc (.cells #[.int .i64 r.n, .int .i64 r.now, .slice (some ⟨g3, 0, none⟩) r.refs.length cap3, .slice r.A3 r.n3 r.c3, .int .i64 r.pol.d, .int .i64 r.pol.k, .int .i64 r.pol.m, .int .i64 r.pol.y, .slice r.A8 r.n8 r.c8] 28)
        have bT9 := (HT7.out.below hb8 HT7.out.lt).alloc (.cells #[.int .i64 r.n, .int .i64 r.now, .slice (some ⟨g3, 0, none⟩) r.refs.length cap3, .slice r.A3 r.n3 r.c3, .int .i64 r.pol.d, .int .i64 r.pol.k, .int .i64 r.pol.m, .int .i64 r.pol.y, .slice r.A8 r.n8 r.c8] 28)
        have rd1 := ((HD7.out.more (Nat.le_trans hsw (by simp))).below hb8).alloc hb8.size (.cells #[.int .i64 r.n, .int .i64 r.now, .slice (some ⟨g3, 0, none⟩) r.refs.length cap3, .slice r.A3 r.n3 r.c3, .int .i64 r.pol.d, .int .i64 r.pol.k, .int .i64 r.pol.m, .int .i64 r.pol.y, .slice r.A8 r.n8 r.c8] 28)
        have rd2 := ((Reads.of_own HO7.out).below hb8).alloc hb8.size (.cells #[.int .i64 r.n, .int .i64 r.now, .slice (some ⟨g3, 0, none⟩) r.refs.length cap3, .slice r.A3 r.n3 r.c3, .int .i64 r.pol.d, .int .i64 r.pol.k, .int .i64 r.pol.m, .int .i64 r.pol.y, .slice r.A8 r.n8 r.c8] 28)
        have hz8 := hb8.size
        clear s0 s1 s2 s3 s4 s5 s6 s7 s8 x0 x1
        have r1 := bR9.cell 1; have s2 := bS9.cell 2; have t2 := bT9.cell 2
        simp only [List.getElem?_toArray, List.getElem?_cons_zero, List.getElem?_cons_succ] at r1 s2 t2
        have HB9 := Lib.hid hb9; have H1 := Lib.hid rd1; have H2 := Lib.hid rd2
        clear hb8 HB7 HR7 HX7 HS7 HT7 HD7 HO7 hb9 bR9 bS9 bT9 rd1 rd2
        go_wp2_with fail
        have hrefs := refs50_any (r.setRow x.m x.n u) (some ⟨g, 0, none⟩) (some ⟨g2, 0, none⟩) cap cap2 (w8.alloc (.cells #[.int .i64 r.n, .int .i64 r.now, .slice (some ⟨g3, 0, none⟩) r.refs.length cap3, .slice r.A3 r.n3 r.c3, .int .i64 r.pol.d, .int .i64 r.pol.k, .int .i64 r.pol.m, .int .i64 r.pol.y, .slice r.A8 r.n8 r.c8] 28))
          (by rw [hnl]; exact H1.out.more (Nat.le_trans hz8 (by simp))) (by rw [hnl]; exact H2.out.more (Nat.le_trans hz8 (by simp))) (by rw [hnl]; exact hfew)
        rw [hnl] at hrefs
        refine hrefs.mono ?_; rintro e w10 ⟨rfl, hb10⟩
        have HF := Lib.hid (HB9.out.trans (hb10.mono HB9.out.size))
        clear hrefs hb10 H1 H2 HB9
        go_wp2_with fail
        go_ret
        exact ⟨rfl, HF.out⟩
  · have h := hbad he
    subst h
    have hne : (r.setErr x.m x.n u == 0) = false := beq_eq_false_iff_ne.2 he
    clear hgood hbad hb4
    go_wp2_with fail
    go_ret
    exact ⟨rfl, HB4.out.alloc HB4.out.size _⟩

end Go.Proofs.Ytfjlhcapkfcpkaa
