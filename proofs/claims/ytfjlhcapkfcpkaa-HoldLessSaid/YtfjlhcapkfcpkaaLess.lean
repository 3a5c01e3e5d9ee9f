/-
  HoldLess: the walk.
-/
import Derived.Deep.RegionWith
import Derived.Deep.RegionHeld3
import Derived.Test.YtfjlhcapkfcpkaaSmall
import Derived.Deep.DeepCutAuto
import Derived.Test.YtfjlhcapkfcpkaaBeside
namespace Go.Proofs.Ytfjlhcapkfcpkaa
open Go.RowKit
set_option linter.unusedSimpArgs false
set_option linter.unusedVariables false

theorem Beside.at_ {m : ByteArray} {A B : List Ref} {i n : Nat} (h : Beside m (A.drop i) (B.drop n)) (hi : i ≤ A.length) (hn : n < B.length) : i < A.length := by
  by_cases c : i < A.length
  · exact c
  · rw [show A.drop i = [] from List.drop_eq_nil_of_le (by omega), List.drop_eq_getElem_cons hn] at h
    exact (beside_nil h).elim
theorem Beside.step {m : ByteArray} {A B : List Ref} {i n : Nat} (h : Beside m (A.drop i) (B.drop n)) (hi : i < A.length) (hn : n < B.length) (he : A[i] = B[n]) : Beside m (A.drop (i + 1)) (B.drop (n + 1)) := by
  rw [List.drop_eq_getElem_cons hi, List.drop_eq_getElem_cons hn, he] at h
  exact beside_step h
theorem Beside.skip {m : ByteArray} {A B : List Ref} {i n : Nat} (h : Beside m (A.drop i) (B.drop n)) (hi : i < A.length) (hn : n < B.length) (he : A[i] ≠ B[n]) : A[i].m = m ∧ Beside m (A.drop (i + 1)) (B.drop n) := by
  rw [List.drop_eq_getElem_cons hi, List.drop_eq_getElem_cons hn] at h
  have h1 := beside_skip h he
  rw [← List.drop_eq_getElem_cons hn] at h1
  exact h1
theorem Beside.end_ {m : ByteArray} {A B : List Ref} {i n : Nat} (h : Beside m (A.drop i) (B.drop n)) (hi : i < A.length) (hn : n = B.length) : A[i].m = m ∧ Beside m (A.drop (i + 1)) (B.drop n) := by
  subst hn
  rw [List.drop_eq_getElem_cons hi, List.drop_length] at h
  rw [List.drop_length]
  exact beside_end h

theorem held_gone (r : Root) (mach : ByteArray) (n u : Int) (g cap : Nat) (W : World) (hf : (r.held mach n u g cap).fits W W.heap.size) :
    Calls Try.prog 16 #[.agg #[.int .i64 r.n, .int .i64 r.now, .slice (some ⟨g, 0, none⟩) r.refs.length cap, .slice r.A3 r.n3 r.c3, .int .i64 r.pol.d, .int .i64 r.pol.k, .int .i64 r.pol.m, .int .i64 r.pol.y, .slice r.A8 r.n8 r.c8]] W fun e w' => ∃ v, e = .returned v ∧
      w'.ownsRow W.heap.size 38 5 v (r.held mach n u g cap).gone.length ((r.held mach n u g cap).gone.flatMap Ref.cs) ∧ Below W.heap.size W w' := by
  have h := gone_any (r.held mach n u g cap) W hf
  rw [held_v] at h
  exact h

set_option maxRecDepth 100000 in
set_option maxHeartbeats 4000000 in
theorem holdLess_any (r : Root) (k u : Int) (hk : 0 ≤ k ∧ k < 256) (hu : okI u) (w : World) (hr : Reads w w.heap.size 5 r.A r.refs.length (r.refs.flatMap Ref.cs)) (hok : ∀ x ∈ r.refs, x.ok) (hlen : r.refs.length ≤ maxLen) :
    Calls Try.prog 5 #[r.v, .int .u8 k, .int .i64 u] w fun e w' => e = .returned (.bool true) ∧ Below w.heap.size w w' := by
  go_enter Try.func5, Try.ntmps5
  have bR := Blk.new w 28 #[.int .i64 r.n, .int .i64 r.now, .slice r.A r.refs.length r.cap, .slice r.A3 r.n3 r.c3, .int .i64 r.pol.d, .int .i64 r.pol.k, .int .i64 r.pol.m, .int .i64 r.pol.y, .slice r.A8 r.n8 r.c8]
  have hb0 : Below w.heap.size w (w.alloc (.cells #[.int .i64 r.n, .int .i64 r.now, .slice r.A r.refs.length r.cap, .slice r.A3 r.n3 r.c3, .int .i64 r.pol.d, .int .i64 r.pol.k, .int .i64 r.pol.m, .int .i64 r.pol.y, .slice r.A8 r.n8 r.c8] 28)) := (Below.refl _ _).alloc (Nat.le_refl _) _
  have HRD := Lib.hid hr
  clear hr
  go_wp2_with fail
  refine (alive_any _).mono ?_; rintro e w1 ⟨rfl, hb1⟩
  have bR1 := bR.below hb1 (by simp)
  have hb1' := hb0.trans (hb1.mono hb0.size)
  clear bR hb0 hb1
  have c2 := bR1.cell 2
  simp only [List.getElem?_toArray, List.getElem?_cons_zero, List.getElem?_cons_succ] at c2
  go_wp2_with fail
  refine (great_any r.refs r.A r.cap _ ((HRD.out.below hb1').more hb1'.size) hlen).mono ?_; rintro e w2 ⟨⟨v, rfl, hv⟩, hb2⟩
  have bR2 := bR1.below hb2 bR1.lt
  have hb2' := hb1'.trans (hb2.mono hb1'.size)
  clear bR1 hb1' hb2 c2
  have r0 := bR2.cell 0; have r1 := bR2.cell 1; have r2 := bR2.cell 2; have r3 := bR2.cell 3; have r4 := bR2.cell 4; have r5 := bR2.cell 5; have r6 := bR2.cell 6; have r7 := bR2.cell 7; have r8 := bR2.cell 8
  simp only [List.getElem?_toArray, List.getElem?_cons_zero, List.getElem?_cons_succ] at r0 r1 r2 r3 r4 r5 r6 r7 r8
  rcases hv with rfl | ⟨rfl, hfew⟩
  · go_wp2_with fail
    go_ret
    exact ⟨rfl, hb2'⟩
  by_cases hz : r.refs.length = 0
  · have hz' : ((r.refs.length : Int) == 0) = true := by simp [hz]
    rw [hz] at r2
    go_wp2_with fail
    go_ret
    exact ⟨rfl, hb2'⟩
  have hz' : ((r.refs.length : Int) == 0) = false := by rw [beq_eq_false_iff_ne]; omega
  have hz0 : ¬ (r.refs.length : Int) = 0 := by omega
  obtain ⟨k, rfl⟩ : ∃ j : Nat, k = (j : Int) := ⟨k.toNat, by omega⟩
  have hm : (k : Int).tmod (r.refs.length : Int) = ((k % r.refs.length : Nat) : Int) := by rw [Int.tmod_eq_emod_of_nonneg (by omega)]; exact (Int.natCast_emod _ _).symm
  obtain ⟨i, hi⟩ : ∃ i, i = k % r.refs.length := ⟨_, rfl⟩
  have hil : i < r.refs.length := by rw [hi]; exact Nat.mod_lt _ (by omega)
  rw [← hi] at hm
  clear hi
  obtain ⟨b, o', x, hA, hx, hbl, d0, d1, d2, d3, d4⟩ := ((HRD.out.below hb2').more hb2'.size).ref rfl hil
  have HX := Lib.hid hx; have HB2 := Lib.hid hb2'; have HR2 := Lib.hid bR2; have HA := Lib.hid hA
  have hil' : (i : Int) < (r.refs.length : Int) := by omega
  have hi0 : (0 : Int) ≤ (i : Int) := by omega
  clear hx hb2' bR2 r0 r1 r3 r4 r5 r6 r7 r8
  have hwr : IntKind.i64.wrap (k : Int) = (k : Int) := by rw [IntKind.wrap_i64]; omega
  have e2 := (World.cell?_alloc_lt w2 (.cells #[.string ⟨#[]⟩, .int .i64 0, .int .i64 0, .string ⟨#[]⟩, .int .i64 0] 38) ⟨w.heap.size, 2, none⟩ HR2.out.lt).trans r2
  have hbl2 : b < w2.heap.size := hbl
  have e20 := (World.cell?_alloc_lt w2 (.cells #[.string ⟨#[]⟩, .int .i64 0, .int .i64 0, .string ⟨#[]⟩, .int .i64 0] 38) ⟨b, o' + i * 5, none⟩ hbl2).trans d0
  have e21 := (World.cell?_alloc_lt w2 (.cells #[.string ⟨#[]⟩, .int .i64 0, .int .i64 0, .string ⟨#[]⟩, .int .i64 0] 38) ⟨b, o' + i * 5 + 1, none⟩ hbl2).trans d1
  have e22 := (World.cell?_alloc_lt w2 (.cells #[.string ⟨#[]⟩, .int .i64 0, .int .i64 0, .string ⟨#[]⟩, .int .i64 0] 38) ⟨b, o' + i * 5 + 2, none⟩ hbl2).trans d2
  have e23 := (World.cell?_alloc_lt w2 (.cells #[.string ⟨#[]⟩, .int .i64 0, .int .i64 0, .string ⟨#[]⟩, .int .i64 0] 38) ⟨b, o' + i * 5 + 3, none⟩ hbl2).trans d3
  have e24 := (World.cell?_alloc_lt w2 (.cells #[.string ⟨#[]⟩, .int .i64 0, .int .i64 0, .string ⟨#[]⟩, .int .i64 0] 38) ⟨b, o' + i * 5 + 4, none⟩ hbl2).trans d4
  go_wp2_with fail
  go_region
  have bR3 := (HR2.out.alloc (.cells #[.string x.m, .int .i64 x.n, .int .i64 x.t, .string x.nm, .int .i64 x.u] 38)).drew
  have bX := (Blk.new w2 38 #[.string x.m, .int .i64 x.n, .int .i64 x.t, .string x.nm, .int .i64 x.u]).drew
  have hb3 : Below w.heap.size w (w2.alloc (.cells #[.string x.m, .int .i64 x.n, .int .i64 x.t, .string x.nm, .int .i64 x.u] 38)).drew := (HB2.out.alloc HB2.out.size _).drew
  have hs3 : (w2.alloc (.cells #[.string x.m, .int .i64 x.n, .int .i64 x.t, .string x.nm, .int .i64 x.u] 38)).drew.heap.size = w2.heap.size + 1 := by simp
  obtain ⟨W3, hW3⟩ : ∃ W, W = (w2.alloc (.cells #[.string x.m, .int .i64 x.n, .int .i64 x.t, .string x.nm, .int .i64 x.u] 38)).drew := ⟨_, rfl⟩
  rw [← hW3] at bR3 bX hb3 hs3 ⊢
  rw [← hA]
  have hs2 := HB2.out.size
  have hw2 : w.heap.size < w2.heap.size := HR2.out.lt
  clear hW3 hA e20 e21 e22 e23 e24 e2 d0 d1 d2 d3 d4 r2 HR2 HB2 hm hwr hi0 hil' hbl hbl2
  have r0 := bR3.cell 0; have r1 := bR3.cell 1; have r2 := bR3.cell 2; have r3 := bR3.cell 3; have r4 := bR3.cell 4; have r5 := bR3.cell 5; have r6 := bR3.cell 6; have r7 := bR3.cell 7; have r8 := bR3.cell 8
  have x0 := bX.cell 0; have x1 := bX.cell 1
  simp only [List.getElem?_toArray, List.getElem?_cons_zero, List.getElem?_cons_succ] at r0 r1 r2 r3 r4 r5 r6 r7 r8 x0 x1
  have HR3 := Lib.hid bR3; have HX3 := Lib.hid bX; have HB3 := Lib.hid hb3
  clear bR3 bX hb3
  have hrd3 := (HRD.out.below HB3.out).more HB3.out.size
  have HD3 := Lib.hid hrd3
  clear hrd3
  go_wp2_with fail
  refine (hset_any r x.m x.n u W3 ⟨HD3.out, hok, hfew⟩).mono ?_
  rintro e w4 ⟨hbad, hgood, hb4⟩
  have HB4 := Lib.hid (HB3.out.trans (hb4.mono HB3.out.size))
  have HR4 := Lib.hid (HR3.out.below hb4 (by omega)); have HX4 := Lib.hid (HX3.out.below hb4 (by omega))
  have hs4 := hb4.size
  clear r0 r1 r2 r3 r4 r5 r6 r7 r8 x0 x1
  by_cases he : r.setErr x.m x.n u = 0
  · obtain ⟨g, cap, rfl, ho⟩ := hgood he
    have hbes := held_beside r x.m x.n u g cap he
    have hnl := setRow_len r x.m x.n u
    have bS := Blk.new w4 28 #[.int .i64 r.n, .int .i64 r.now, .slice (some ⟨g, 0, none⟩) r.refs.length cap, .slice r.A3 r.n3 r.c3, .int .i64 r.pol.d, .int .i64 r.pol.k, .int .i64 r.pol.m, .int .i64 r.pol.y, .slice r.A8 r.n8 r.c8]
    have ho4 := ho.alloc (.cells #[.int .i64 r.n, .int .i64 r.now, .slice (some ⟨g, 0, none⟩) r.refs.length cap, .slice r.A3 r.n3 r.c3, .int .i64 r.pol.d, .int .i64 r.pol.k, .int .i64 r.pol.m, .int .i64 r.pol.y, .slice r.A8 r.n8 r.c8] 28)
    have hb5 := HB4.out.alloc HB4.out.size (.cells #[.int .i64 r.n, .int .i64 r.now, .slice (some ⟨g, 0, none⟩) r.refs.length cap, .slice r.A3 r.n3 r.c3, .int .i64 r.pol.d, .int .i64 r.pol.k, .int .i64 r.pol.m, .int .i64 r.pol.y, .slice r.A8 r.n8 r.c8] 28)
    have bR5 := HR4.out.alloc (.cells #[.int .i64 r.n, .int .i64 r.now, .slice (some ⟨g, 0, none⟩) r.refs.length cap, .slice r.A3 r.n3 r.c3, .int .i64 r.pol.d, .int .i64 r.pol.k, .int .i64 r.pol.m, .int .i64 r.pol.y, .slice r.A8 r.n8 r.c8] 28)
    have bX5 := HX4.out.alloc (.cells #[.int .i64 r.n, .int .i64 r.now, .slice (some ⟨g, 0, none⟩) r.refs.length cap, .slice r.A3 r.n3 r.c3, .int .i64 r.pol.d, .int .i64 r.pol.k, .int .i64 r.pol.m, .int .i64 r.pol.y, .slice r.A8 r.n8 r.c8] 28)
    have hz5 : (w4.alloc (.cells #[.int .i64 r.n, .int .i64 r.now, .slice (some ⟨g, 0, none⟩) r.refs.length cap, .slice r.A3 r.n3 r.c3, .int .i64 r.pol.d, .int .i64 r.pol.k, .int .i64 r.pol.m, .int .i64 r.pol.y, .slice r.A8 r.n8 r.c8] 28)).heap.size = w4.heap.size + 1 := by simp
    have hf1 : r.fits (w4.alloc (.cells #[.int .i64 r.n, .int .i64 r.now, .slice (some ⟨g, 0, none⟩) r.refs.length cap, .slice r.A3 r.n3 r.c3, .int .i64 r.pol.d, .int .i64 r.pol.k, .int .i64 r.pol.m, .int .i64 r.pol.y, .slice r.A8 r.n8 r.c8] 28)) (w4.alloc (.cells #[.int .i64 r.n, .int .i64 r.now, .slice (some ⟨g, 0, none⟩) r.refs.length cap, .slice r.A3 r.n3 r.c3, .int .i64 r.pol.d, .int .i64 r.pol.k, .int .i64 r.pol.m, .int .i64 r.pol.y, .slice r.A8 r.n8 r.c8] 28)).heap.size := ⟨(HRD.out.below hb5).more hb5.size, hok, hfew⟩
    have hf2 := held_fits r x.m x.n u g cap hu hok hfew (w4.alloc (.cells #[.int .i64 r.n, .int .i64 r.now, .slice (some ⟨g, 0, none⟩) r.refs.length cap, .slice r.A3 r.n3 r.c3, .int .i64 r.pol.d, .int .i64 r.pol.k, .int .i64 r.pol.m, .int .i64 r.pol.y, .slice r.A8 r.n8 r.c8] 28)) (Reads.of_own ho4)
    have HBES := Lib.hid hbes
    have HR5 := Lib.hid bR5; have HS5 := Lib.hid bS; have HX5 := Lib.hid bX5; have HB5 := Lib.hid hb5; have HF1 := Lib.hid hf1; have HF2 := Lib.hid hf2
    have hl1 : r.gone.length ≤ 60 := by have := stay_gone_len r; omega
    have hl2 : (r.held x.m x.n u g cap).gone.length ≤ r.gone.length := beside_len hbes
    clear hgood hbad hb4 HB4 HR4 HX4 ho ho4 hb5 bR5 bX5 bS hf1 hf2 hbes
    go_wp2_with fail
    obtain ⟨W5, hW5⟩ : ∃ W, W = w4.alloc (.cells #[.int .i64 r.n, .int .i64 r.now, .slice (some ⟨g, 0, none⟩) r.refs.length cap, .slice r.A3 r.n3 r.c3, .int .i64 r.pol.d, .int .i64 r.pol.k, .int .i64 r.pol.m, .int .i64 r.pol.y, .slice r.A8 r.n8 r.c8] 28) := ⟨_, rfl⟩
    rw [← hW5] at HR5 HS5 HX5 HB5 HF1 HF2 hz5 ⊢
    clear hW5
    have HC := Lib.hid (Below.refl W5.heap.size W5)
    go_cut [10, 11] from 47 to 50 (fun a b wx => ∃ (Ag : Option Addr) (cg : Nat) (An : Option Addr) (cn : Nat), a = .slice Ag r.gone.length cg ∧ b = .slice An (r.held x.m x.n u g cap).gone.length cn ∧
      Reads wx wx.heap.size 5 Ag r.gone.length (r.gone.flatMap Ref.cs) ∧ Reads wx wx.heap.size 5 An (r.held x.m x.n u g cap).gone.length ((r.held x.m x.n u g cap).gone.flatMap Ref.cs) ∧ Below W5.heap.size W5 wx)
    case first =>
      have hS : ∀ w' : World, Below W5.heap.size W5 w' → w'.cell? ⟨w.heap.size, 0, none⟩ = some (.int .i64 r.n) ∧ w'.cell? ⟨w.heap.size, 1, none⟩ = some (.int .i64 r.now) ∧ w'.cell? ⟨w.heap.size, 2, none⟩ = some (.slice r.A r.refs.length r.cap) ∧ w'.cell? ⟨w.heap.size, 3, none⟩ = some (.slice r.A3 r.n3 r.c3) ∧ w'.cell? ⟨w.heap.size, 4, none⟩ = some (.int .i64 r.pol.d) ∧ w'.cell? ⟨w.heap.size, 5, none⟩ = some (.int .i64 r.pol.k) ∧ w'.cell? ⟨w.heap.size, 6, none⟩ = some (.int .i64 r.pol.m) ∧ w'.cell? ⟨w.heap.size, 7, none⟩ = some (.int .i64 r.pol.y) ∧ w'.cell? ⟨w.heap.size, 8, none⟩ = some (.slice r.A8 r.n8 r.c8) ∧ w'.cell? ⟨w4.heap.size, 0, none⟩ = some (.int .i64 r.n) ∧ w'.cell? ⟨w4.heap.size, 1, none⟩ = some (.int .i64 r.now) ∧ w'.cell? ⟨w4.heap.size, 2, none⟩ = some (.slice (some ⟨g, 0, none⟩) r.refs.length cap) ∧ w'.cell? ⟨w4.heap.size, 3, none⟩ = some (.slice r.A3 r.n3 r.c3) ∧ w'.cell? ⟨w4.heap.size, 4, none⟩ = some (.int .i64 r.pol.d) ∧ w'.cell? ⟨w4.heap.size, 5, none⟩ = some (.int .i64 r.pol.k) ∧ w'.cell? ⟨w4.heap.size, 6, none⟩ = some (.int .i64 r.pol.m) ∧ w'.cell? ⟨w4.heap.size, 7, none⟩ = some (.int .i64 r.pol.y) ∧ w'.cell? ⟨w4.heap.size, 8, none⟩ = some (.slice r.A8 r.n8 r.c8) := by
        intro w' hb
        have bR := HR5.out.below hb HR5.out.lt
        have bS := HS5.out.below hb HS5.out.lt
        exact ⟨bR.cell 0, bR.cell 1, bR.cell 2, bR.cell 3, bR.cell 4, bR.cell 5, bR.cell 6, bR.cell 7, bR.cell 8, bS.cell 0, bS.cell 1, bS.cell 2, bS.cell 3, bS.cell 4, bS.cell 5, bS.cell 6, bS.cell 7, bS.cell 8⟩
      have HSS := Lib.hid hS
      clear hS
      go_region_held3 (fun w' => w'.cell? ⟨w.heap.size, 0, none⟩ = some (.int .i64 r.n) ∧ w'.cell? ⟨w.heap.size, 1, none⟩ = some (.int .i64 r.now) ∧ w'.cell? ⟨w.heap.size, 2, none⟩ = some (.slice r.A r.refs.length r.cap) ∧ w'.cell? ⟨w.heap.size, 3, none⟩ = some (.slice r.A3 r.n3 r.c3) ∧ w'.cell? ⟨w.heap.size, 4, none⟩ = some (.int .i64 r.pol.d) ∧ w'.cell? ⟨w.heap.size, 5, none⟩ = some (.int .i64 r.pol.k) ∧ w'.cell? ⟨w.heap.size, 6, none⟩ = some (.int .i64 r.pol.m) ∧ w'.cell? ⟨w.heap.size, 7, none⟩ = some (.int .i64 r.pol.y) ∧ w'.cell? ⟨w.heap.size, 8, none⟩ = some (.slice r.A8 r.n8 r.c8) ∧ w'.cell? ⟨w4.heap.size, 0, none⟩ = some (.int .i64 r.n) ∧ w'.cell? ⟨w4.heap.size, 1, none⟩ = some (.int .i64 r.now) ∧ w'.cell? ⟨w4.heap.size, 2, none⟩ = some (.slice (some ⟨g, 0, none⟩) r.refs.length cap) ∧ w'.cell? ⟨w4.heap.size, 3, none⟩ = some (.slice r.A3 r.n3 r.c3) ∧ w'.cell? ⟨w4.heap.size, 4, none⟩ = some (.int .i64 r.pol.d) ∧ w'.cell? ⟨w4.heap.size, 5, none⟩ = some (.int .i64 r.pol.k) ∧ w'.cell? ⟨w4.heap.size, 6, none⟩ = some (.int .i64 r.pol.m) ∧ w'.cell? ⟨w4.heap.size, 7, none⟩ = some (.int .i64 r.pol.y) ∧ w'.cell? ⟨w4.heap.size, 8, none⟩ = some (.slice r.A8 r.n8 r.c8)) (first | exact HSS.out _ (below_like HC.out) | exact HSS.out _ (below_like hba) | exact HSS.out _ (Below.trans (below_like hba (a' := W5) (b' := wa)) (Below.mono (below_like hbb (a' := wa) (b' := wb)) hba.size)))
        (first | (go_at_call 16; have hq := hba; refine (held_gone r x.m x.n u g cap _ ?_).mono ?_; exact ⟨((HF2.out.reads).below (below_like hba (a' := W5) (b' := wa))).more hba.size, HF2.out.ok, HF2.out.few⟩; rintro e wb ⟨vb, rfl, hob, hbb⟩) | (go_at_call 16; refine (gone_any r _ ?_).mono ?_; exact ⟨HF1.out.reads, hok, hfew⟩; rintro e wa ⟨va, rfl, hoa, hba⟩))
      obtain ⟨Ag, cg, rfl⟩ := own_slice hoa
      obtain ⟨An, cn, rfl⟩ := own_slice hob
      have hq1 := (Reads.of_own hoa).below (below_like hbb (a' := wa) (b' := wb))
      have hq2 := Reads.of_own hob
      have hq3 := (below_like hba (a' := W5) (b' := wa)).trans ((below_like hbb (a' := wa) (b' := wb)).mono hba.size)
      have HQ1 := Lib.hid hq1; have HQ2 := Lib.hid hq2; have HQ3 := Lib.hid hq3
      have hzz := hbb.size
      clear hq1 hq2 hq3 hoa hob hba hbb
      go_wp2_with fail
      go_meet
      exact ⟨Ag, cg, An, cn, rfl, rfl, HQ1.out.more hzz, HQ2.out, HQ3.out⟩
    case rest =>
      obtain ⟨Ag, cg, An, cn, rfl, rfl, hG, hN, hb6⟩ := hcut
      have hBX := HX5.out.below hb6 HX5.out.lt
      have HB6 := Lib.hid (HB5.out.trans (hb6.mono HB5.out.size))
      have HX6 := Lib.hid hBX
      have HG := Lib.hid hG; have HN := Lib.hid hN
      clear hG hN hb6 hBX HX5 HB5 HF1 HF2 HR5 HS5 HC hz5 HX HA HD3 HB3 HR3 HX3
      generalize r.gone = G at HBES HG hl1 hl2 ⊢
      generalize (r.held x.m x.n u g cap).gone = N at HBES HN hl2 ⊢
      have hgt : ¬ (G.length : Int) < (N.length : Int) := by omega
      go_wp2_with fail
      go_loopw [12, 13] (fun a b wr => ∃ i n : Nat, a = .int .i64 i ∧ b = .int .i64 n ∧ i ≤ G.length ∧ n ≤ N.length ∧ Beside x.m (G.drop i) (N.drop n) ∧ Below wc.heap.size wc wr)
        (fun _ b _ => N.length - (intOf b).toNat)
      case atStart => exact ⟨0, 0, rfl, rfl, Nat.zero_le _, Nat.zero_le _, HBES.out, Below.refl _ _⟩
      case round =>
        obtain ⟨i, n, rfl, rfl, hi, hn, hbes, hb⟩ := hrel
        have HE := Lib.hid hbes
        clear hbes
        by_cases hnl : n < N.length
        · have hnl' : (n : Int) < (N.length : Int) := by omega
          go_wp2_with fail
          go_loopw [12] (fun a wv => ∃ i : Nat, a = .int .i64 i ∧ i ≤ G.length ∧ Beside x.m (G.drop i) (N.drop n) ∧ Below wc.heap.size wc wv)
            (fun a _ => G.length - (intOf a).toNat)
          case atStart => exact ⟨i, rfl, hi, HE.out, hb⟩
          case round =>
            clear hi HE hb
            obtain ⟨i, rfl, hi, hbes, hb⟩ := hrel
            have hil := hbes.at_ hi hnl
            have hil' : (i : Int) < (G.length : Int) := by omega
            have hie : ((i : Int) == (G.length : Int)) = false := by rw [beq_eq_false_iff_ne]; omega
            obtain ⟨b1, o1, y, hA1, hy, hbl1, c0, c1, c2, c3, c4⟩ := (HG.out.below hb).ref rfl hil
            obtain ⟨b2, o2, z, hA2, hz, hbl2, d0, d1, d2, d3, d4⟩ := (HN.out.below hb).ref rfl hnl
            have e0 := (HX6.out.below hb HX6.out.lt).cell 0
            simp only [List.getElem?_toArray, List.getElem?_cons_zero, List.getElem?_cons_succ] at e0
            by_cases hyz : y = z
            · have hst := hbes.step hil hnl (by rw [← hy, ← hz]; exact hyz)
              have hne : ∀ W : World, (binOp .neq 38 y.v z.v).run Try.prog W = .ok (.bool false) W := fun W => by rw [neq_ref]; simp [hyz]
              have HST := Lib.hid hst
              subst hA1 hA2
              clear hst hbes hyz hy hz e0
              go_wp2_with fail
              go_quiet (fail)
              go_wp2_with fail
              go_roundw
              case rel => exact ⟨i + 1, n + 1, by go_num, by go_num, by omega, by omega, HST.out, below_drewN hb _⟩
              case measure => simp [intOf]; omega
            · have hsk := hbes.skip hil hnl (by rw [← hy, ← hz]; exact hyz)
              have hym : y.m = x.m := by rw [hy]; exact hsk.1
              have hne : ∀ W : World, (binOp .neq 38 y.v z.v).run Try.prog W = .ok (.bool true) W := fun W => by rw [neq_ref]; simp [hyz]
              have HST := Lib.hid hsk.2
              subst hA1 hA2
              have e1 : (y.m.toList == x.m.toList) = true := by rw [hym]; simp
              clear hym hsk hbes hyz hy hz
              go_wp2_with fail
              go_quiet (fail)
              go_wp2_with fail
              go_quiet (fail)
              go_wp2_with fail
              go_roundw
              case rel => exact ⟨i + 1, by go_num, by omega, HST.out, below_drewN hb _⟩
              case measure => simp [intOf]; omega
        · have hne : n = N.length := by omega
          go_wp2_with fail
          go_loopw [12] (fun a wv => ∃ i : Nat, a = .int .i64 i ∧ i ≤ G.length ∧ Beside x.m (G.drop i) (N.drop n) ∧ Below wc.heap.size wc wv)
            (fun a _ => G.length - (intOf a).toNat)
          case atStart => exact ⟨i, rfl, hi, HE.out, hb⟩
          case round =>
            clear hi HE hb
            obtain ⟨i, rfl, hi, hbes, hb⟩ := hrel
            by_cases hil : i < G.length
            · have hil' : (i : Int) < (G.length : Int) := by omega
              obtain ⟨b1, o1, y, hA1, hy, hbl1, c0, c1, c2, c3, c4⟩ := (HG.out.below hb).ref rfl hil
              have hen := hbes.end_ hil hne
              have hym : y.m = x.m := by rw [hy]; exact hen.1
              have e0 := (HX6.out.below hb HX6.out.lt).cell 0
              simp only [List.getElem?_toArray, List.getElem?_cons_zero, List.getElem?_cons_succ] at e0
              have HST := Lib.hid hen.2
              subst hA1
              rw [hym] at c0
              clear hen hbes hy
              go_wp2_with fail
              go_quiet (fail)
              go_wp2_with fail
              go_roundw
              case rel => exact ⟨i + 1, by go_num, by omega, HST.out, below_drewN hb _⟩
              case measure => simp [intOf]; omega
            · have hie : i = G.length := by omega
              subst hie
              go_wp2_with fail
              go_ret
              exact ⟨rfl, HB6.out.trans (hb.mono HB6.out.size)⟩
  · have h := hbad he
    subst h
    have hne : (r.setErr x.m x.n u == 0) = false := beq_eq_false_iff_ne.2 he
    clear hgood hbad hb4
    go_wp2_with fail
    go_ret
    exact ⟨rfl, HB4.out.alloc HB4.out.size _⟩

end Go.Proofs.Ytfjlhcapkfcpkaa
