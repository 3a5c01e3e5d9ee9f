/-
  HoldSets: the walk.
-/
import Derived.Test.YtfjlhcapkfcpkaaRfs
import Derived.Test.YtfjlhcapkfcpkaaOpenP
namespace Go.Proofs.Ytfjlhcapkfcpkaa
open Go.RowKit
set_option linter.unusedSimpArgs false
set_option linter.unusedVariables false

set_option maxRecDepth 100000 in
set_option maxHeartbeats 4000000 in
theorem sets_any (r : Root) (mach : ByteArray) (n u : Int) (w : World) (hr : Reads w w.heap.size 5 r.A r.refs.length (r.refs.flatMap Ref.cs)) (hok : ∀ x ∈ r.refs, x.ok) (hlen : r.refs.length ≤ maxLen)
    (hP : Packs w w.heap.size r.A3 r.n3) (hC : Rows1 w w.heap.size 34 59 r.A8 r.n8) (hn3 : r.n3 ≤ maxLen) (hn8 : r.n8 ≤ maxLen) :
    Calls Try.prog 3 #[r.v, .string mach, .int .i64 n, .int .i64 u] w fun e w' => e = .returned (.bool true) ∧ Below w.heap.size w w' := by
  go_enter Try.func3, Try.ntmps3
  have bR := Blk.new w 28 #[.int .i64 r.n, .int .i64 r.now, .slice r.A r.refs.length r.cap, .slice r.A3 r.n3 r.c3, .int .i64 r.pol.d, .int .i64 r.pol.k, .int .i64 r.pol.m, .int .i64 r.pol.y, .slice r.A8 r.n8 r.c8]
  have hb0 : Below w.heap.size w (w.alloc (.cells #[.int .i64 r.n, .int .i64 r.now, .slice r.A r.refs.length r.cap, .slice r.A3 r.n3 r.c3, .int .i64 r.pol.d, .int .i64 r.pol.k, .int .i64 r.pol.m, .int .i64 r.pol.y, .slice r.A8 r.n8 r.c8] 28)) := by (repeat' (first | with_reducible exact Below.refl _ _ | assumption | (with_reducible refine Below.drew ?_) | (with_reducible refine below_drewN ?_ _) | (with_reducible refine Below.alloc ?_ (by first | exact Nat.le_refl _ | (simp; done) | (simp; omega)) _) | (with_reducible refine Below.setCell ?_ (by first | exact Nat.le_refl _ | (simp; done) | (simp; omega)) _)))
  have HRD := Lib.hid hr; have HP := Lib.hid hP; have HC := Lib.hid hC
  clear hr hP hC
  go_wp2_with fail
  refine (alive_any _).mono ?_; rintro e w1 ⟨rfl, hb1⟩
  have bR1 := bR.below hb1 (by simp)
  have hb1' := hb0.trans (hb1.mono hb0.size)
  clear bR hb0 hb1
  have c2 := bR1.cell 2
  simp only [List.getElem?_toArray, List.getElem?_cons_zero, List.getElem?_cons_succ] at c2
  go_wp2_with fail
  refine (great_any r.refs r.A r.cap _ ((HRD.out.below hb1').more hb1'.size) hlen).mono ?_; rintro e w2 ⟨⟨v, rfl, hv⟩, hb2⟩
  have bR2 := bR1.below hb2 bR1.lt
  have hb2' := hb1'.trans (hb2.mono hb1'.size)
  clear bR1 hb1' hb2 c2
  have r0 := bR2.cell 0; have r1 := bR2.cell 1; have r2 := bR2.cell 2; have r3 := bR2.cell 3; have r4 := bR2.cell 4; have r5 := bR2.cell 5; have r6 := bR2.cell 6; have r7 := bR2.cell 7; have r8 := bR2.cell 8
  simp only [List.getElem?_toArray, List.getElem?_cons_zero, List.getElem?_cons_succ] at r0 r1 r2 r3 r4 r5 r6 r7 r8
  rcases hv with rfl | ⟨rfl, hfew⟩
  · go_wp2_with fail
    go_ret
    exact ⟨rfl, hb2'⟩
  by_cases hmz : (100 : Int) < mach.size
  · go_wp2_with fail
    go_ret
    exact ⟨rfl, hb2'⟩
  have HB2 := Lib.hid hb2'; have HR2 := Lib.hid bR2
  clear hb2' bR2
  go_wp2_with fail
  refine (hset_any r mach n u w2 ⟨(HRD.out.below HB2.out).more HB2.out.size, hok, hfew⟩).mono ?_
  rintro e w3 ⟨hbad3, hgood3, hb3⟩
  have HB3 := Lib.hid (HB2.out.trans (hb3.mono HB2.out.size))
  have HR3 := Lib.hid (HR2.out.below hb3 HR2.out.lt)
  clear r0 r1 r2 r3 r4 r5 r6 r7 r8
  by_cases he : r.setErr mach n u = 0
  · obtain ⟨g, cap, rfl, ho⟩ := hgood3 he
    have HO := Lib.hid ho
    clear ho hb3 HB2 HR2
    have bA := Blk.new w3 28 #[.int .i64 r.n, .int .i64 r.now, .slice (some ⟨g, 0, none⟩) r.refs.length cap, .slice r.A3 r.n3 r.c3, .int .i64 r.pol.d, .int .i64 r.pol.k, .int .i64 r.pol.m, .int .i64 r.pol.y, .slice r.A8 r.n8 r.c8]
    have bR4 := (HR3.out.alloc (.cells #[.int .i64 r.n, .int .i64 r.now, .slice (some ⟨g, 0, none⟩) r.refs.length cap, .slice r.A3 r.n3 r.c3, .int .i64 r.pol.d, .int .i64 r.pol.k, .int .i64 r.pol.m, .int .i64 r.pol.y, .slice r.A8 r.n8 r.c8] 28))
    have hb4 := HB3.out.alloc HB3.out.size (.cells #[.int .i64 r.n, .int .i64 r.now, .slice (some ⟨g, 0, none⟩) r.refs.length cap, .slice r.A3 r.n3 r.c3, .int .i64 r.pol.d, .int .i64 r.pol.k, .int .i64 r.pol.m, .int .i64 r.pol.y, .slice r.A8 r.n8 r.c8] 28)
    have hrd4 := (HRD.out.below hb4).more hb4.size
    have r0 := bR4.cell 0; have r1 := bR4.cell 1; have r2 := bR4.cell 2; have r3 := bR4.cell 3; have r4 := bR4.cell 4; have r5 := bR4.cell 5; have r6 := bR4.cell 6; have r7 := bR4.cell 7; have r8 := bR4.cell 8
    simp only [List.getElem?_toArray, List.getElem?_cons_zero, List.getElem?_cons_succ] at r0 r1 r2 r3 r4 r5 r6 r7 r8
    have HA4 := Lib.hid bA; have HB4 := Lib.hid hb4; have HRD4 := Lib.hid hrd4
    clear bA bR4 hb4 hrd4 hgood3 hbad3
    go_wp2_with fail
    refine (set50_any r mach n u _ ⟨HRD4.out, hok, hfew⟩).mono ?_
    rintro e w5 ⟨hbad5, hgood5, hb5⟩
    obtain ⟨g2, cap2, rfl, ho5⟩ := hgood5 he
    have hl := setRow_len r mach n u
    have bA6 := (HA4.out.below hb5 HA4.out.lt).alloc (.cells #[.int .i64 r.n, .int .i64 r.now, .slice (some ⟨g2, 0, none⟩) r.refs.length cap2, .slice r.A3 r.n3 r.c3, .int .i64 r.pol.d, .int .i64 r.pol.k, .int .i64 r.pol.m, .int .i64 r.pol.y, .slice r.A8 r.n8 r.c8] 28)
    have bB6 := Blk.new w5 28 #[.int .i64 r.n, .int .i64 r.now, .slice (some ⟨g2, 0, none⟩) r.refs.length cap2, .slice r.A3 r.n3 r.c3, .int .i64 r.pol.d, .int .i64 r.pol.k, .int .i64 r.pol.m, .int .i64 r.pol.y, .slice r.A8 r.n8 r.c8]
    have hb6 := (HB4.out.trans (hb5.mono HB4.out.size)).alloc (by have := HB4.out.size; have := hb5.size; omega) (.cells #[.int .i64 r.n, .int .i64 r.now, .slice (some ⟨g2, 0, none⟩) r.refs.length cap2, .slice r.A3 r.n3 r.c3, .int .i64 r.pol.d, .int .i64 r.pol.k, .int .i64 r.pol.m, .int .i64 r.pol.y, .slice r.A8 r.n8 r.c8] 28)
    have rd1 := (((Reads.of_own (HO.out.alloc (.cells #[.int .i64 r.n, .int .i64 r.now, .slice (some ⟨g, 0, none⟩) r.refs.length cap, .slice r.A3 r.n3 r.c3, .int .i64 r.pol.d, .int .i64 r.pol.k, .int .i64 r.pol.m, .int .i64 r.pol.y, .slice r.A8 r.n8 r.c8] 28))).below hb5).alloc hb5.size (.cells #[.int .i64 r.n, .int .i64 r.now, .slice (some ⟨g2, 0, none⟩) r.refs.length cap2, .slice r.A3 r.n3 r.c3, .int .i64 r.pol.d, .int .i64 r.pol.k, .int .i64 r.pol.m, .int .i64 r.pol.y, .slice r.A8 r.n8 r.c8] 28))
    have rd2 := Reads.of_own (ho5.alloc (.cells #[.int .i64 r.n, .int .i64 r.now, .slice (some ⟨g2, 0, none⟩) r.refs.length cap2, .slice r.A3 r.n3 r.c3, .int .i64 r.pol.d, .int .i64 r.pol.k, .int .i64 r.pol.m, .int .i64 r.pol.y, .slice r.A8 r.n8 r.c8] 28))
    have a0 := bA6.cell 0; have a1 := bA6.cell 1; have a2 := bA6.cell 2; have a3 := bA6.cell 3; have a4 := bA6.cell 4; have a5 := bA6.cell 5; have a6 := bA6.cell 6; have a7 := bA6.cell 7; have a8 := bA6.cell 8
    have b0 := bB6.cell 0; have b1 := bB6.cell 1; have b2 := bB6.cell 2; have b3 := bB6.cell 3; have b4 := bB6.cell 4; have b5 := bB6.cell 5; have b6 := bB6.cell 6; have b7 := bB6.cell 7; have b8 := bB6.cell 8
    simp only [List.getElem?_toArray, List.getElem?_cons_zero, List.getElem?_cons_succ] at a0 a1 a2 a3 a4 a5 a6 a7 a8 b0 b1 b2 b3 b4 b5 b6 b7 b8
    have hz5 := hb5.size
    have HB6 := Lib.hid hb6; have HA6 := Lib.hid bA6; have HBB6 := Lib.hid bB6; have H1 := Lib.hid rd1; have H2 := Lib.hid rd2
    clear r0 r1 r2 r3 r4 r5 r6 r7 r8 hbad5 hgood5 hb5 ho5 HA4 HB4 HRD4 HR3 HB3 HO hb6 bA6 bB6 rd1 rd2
    go_wp2_with fail
    have hrefs := refs50_any (r.setRow mach n u) (some ⟨g, 0, none⟩) (some ⟨g2, 0, none⟩) cap cap2 (w5.alloc (.cells #[.int .i64 r.n, .int .i64 r.now, .slice (some ⟨g2, 0, none⟩) r.refs.length cap2, .slice r.A3 r.n3 r.c3, .int .i64 r.pol.d, .int .i64 r.pol.k, .int .i64 r.pol.m, .int .i64 r.pol.y, .slice r.A8 r.n8 r.c8] 28))
      (by rw [hl]; exact H1.out.more (Nat.le_trans hz5 (by simp))) (by rw [hl]; exact H2.out) (by rw [hl]; exact hfew)
    rw [hl] at hrefs
    refine hrefs.mono ?_; rintro e w7 ⟨rfl, hb7⟩
    have HB7 := Lib.hid (HB6.out.trans (hb7.mono HB6.out.size))
    have bA7 := HA6.out.below hb7 HA6.out.lt
    have bB7 := HBB6.out.below hb7 HBB6.out.lt
    clear a0 a1 a2 a3 a4 a5 a6 a7 a8 b0 b1 b2 b3 b4 b5 b6 b7 b8 hrefs hb7 H1 H2 HB6 HA6 HBB6
    have a0 := bA7.cell 0; have a1 := bA7.cell 1; have a2 := bA7.cell 2; have a3 := bA7.cell 3; have a4 := bA7.cell 4; have a5 := bA7.cell 5; have a6 := bA7.cell 6; have a7 := bA7.cell 7; have a8 := bA7.cell 8
    have b0 := bB7.cell 0; have b1 := bB7.cell 1; have b2 := bB7.cell 2; have b3 := bB7.cell 3; have b4 := bB7.cell 4; have b5 := bB7.cell 5; have b6 := bB7.cell 6; have b7 := bB7.cell 7; have b8 := bB7.cell 8
    simp only [List.getElem?_toArray, List.getElem?_cons_zero, List.getElem?_cons_succ] at a0 a1 a2 a3 a4 a5 a6 a7 a8 b0 b1 b2 b3 b4 b5 b6 b7 b8
    clear bA7 bB7
    go_wp2_with fail
    refine (alike_any r.n r.now r.pol r.A3 r.A8 (some ⟨g, 0, none⟩) (some ⟨g2, 0, none⟩) r.n3 r.c3 r.n8 r.c8 r.refs.length cap r.refs.length cap2 w7 ((HP.out.below HB7.out).more HB7.out.size) ((HC.out.below HB7.out).more HB7.out.size) hn3 hn8).mono ?_; rintro e w8 ⟨rfl, hb8⟩
    have HB8 := Lib.hid (HB7.out.trans (hb8.mono HB7.out.size))
    clear hb8
    go_wp2_with fail
    go_ret
    exact ⟨rfl, HB8.out⟩
  · have h3 := hbad3 he
    subst h3
    clear hb3 HB2 HR2
    have bA := Blk.new w3 28 #[.int .i64 0, .int .i64 0, .slice none 0 0, .slice none 0 0, .int .i64 0, .int .i64 0, .int .i64 0, .int .i64 0, .slice none 0 0]
    have bR4 := (HR3.out.alloc (.cells #[.int .i64 0, .int .i64 0, .slice none 0 0, .slice none 0 0, .int .i64 0, .int .i64 0, .int .i64 0, .int .i64 0, .slice none 0 0] 28))
    have hb4 := HB3.out.alloc HB3.out.size (.cells #[.int .i64 0, .int .i64 0, .slice none 0 0, .slice none 0 0, .int .i64 0, .int .i64 0, .int .i64 0, .int .i64 0, .slice none 0 0] 28)
    have hrd4 := (HRD.out.below hb4).more hb4.size
    have r0 := bR4.cell 0; have r1 := bR4.cell 1; have r2 := bR4.cell 2; have r3 := bR4.cell 3; have r4 := bR4.cell 4; have r5 := bR4.cell 5; have r6 := bR4.cell 6; have r7 := bR4.cell 7; have r8 := bR4.cell 8
    simp only [List.getElem?_toArray, List.getElem?_cons_zero, List.getElem?_cons_succ] at r0 r1 r2 r3 r4 r5 r6 r7 r8
    have HA4 := Lib.hid bA; have HB4 := Lib.hid hb4; have HRD4 := Lib.hid hrd4
    clear bA bR4 hb4 hrd4 hgood3 hbad3
    go_wp2_with fail
    refine (set50_any r mach n u _ ⟨HRD4.out, hok, hfew⟩).mono ?_
    rintro e w5 ⟨hbad5, hgood5, hb5⟩
    have h5 := hbad5 he
    subst h5
    have heq : (r.setErr mach n u == r.setErr mach n u) = true := by simp
    have bA6 := (HA4.out.below hb5 HA4.out.lt).alloc (.cells #[.int .i64 0, .int .i64 0, .slice none 0 0, .slice none 0 0, .int .i64 0, .int .i64 0, .int .i64 0, .int .i64 0, .slice none 0 0] 28)
    have bB6 := Blk.new w5 28 #[.int .i64 0, .int .i64 0, .slice none 0 0, .slice none 0 0, .int .i64 0, .int .i64 0, .int .i64 0, .int .i64 0, .slice none 0 0]
    have hb6 := (HB4.out.trans (hb5.mono HB4.out.size)).alloc (by have := HB4.out.size; have := hb5.size; omega) (.cells #[.int .i64 0, .int .i64 0, .slice none 0 0, .slice none 0 0, .int .i64 0, .int .i64 0, .int .i64 0, .int .i64 0, .slice none 0 0] 28)
    have a0 := bA6.cell 0; have a1 := bA6.cell 1; have a2 := bA6.cell 2; have a3 := bA6.cell 3; have a4 := bA6.cell 4; have a5 := bA6.cell 5; have a6 := bA6.cell 6; have a7 := bA6.cell 7; have a8 := bA6.cell 8
    have b0 := bB6.cell 0; have b1 := bB6.cell 1; have b2 := bB6.cell 2; have b3 := bB6.cell 3; have b4 := bB6.cell 4; have b5 := bB6.cell 5; have b6 := bB6.cell 6; have b7 := bB6.cell 7; have b8 := bB6.cell 8
    simp only [List.getElem?_toArray, List.getElem?_cons_zero, List.getElem?_cons_succ] at a0 a1 a2 a3 a4 a5 a6 a7 a8 b0 b1 b2 b3 b4 b5 b6 b7 b8
    have HB6 := Lib.hid hb6; have HA6 := Lib.hid bA6; have HBB6 := Lib.hid bB6
    clear r0 r1 r2 r3 r4 r5 r6 r7 r8 hbad5 hgood5 hb5 HA4 HB4 HRD4 HR3 HB3 hb6 bA6 bB6
    go_wp2_with fail
    refine (refs50_any [] none none 0 0 (w5.alloc (.cells #[.int .i64 0, .int .i64 0, .slice none 0 0, .slice none 0 0, .int .i64 0, .int .i64 0, .int .i64 0, .int .i64 0, .slice none 0 0] 28)) Reads.none_ Reads.none_ (by decide)).mono ?_; rintro e w7 ⟨rfl, hb7⟩
    have HB7 := Lib.hid (HB6.out.trans (hb7.mono HB6.out.size))
    have bA7 := HA6.out.below hb7 HA6.out.lt
    have bB7 := HBB6.out.below hb7 HBB6.out.lt
    clear a0 a1 a2 a3 a4 a5 a6 a7 a8 b0 b1 b2 b3 b4 b5 b6 b7 b8 hb7 HB6 HA6 HBB6
    have a0 := bA7.cell 0; have a1 := bA7.cell 1; have a2 := bA7.cell 2; have a3 := bA7.cell 3; have a4 := bA7.cell 4; have a5 := bA7.cell 5; have a6 := bA7.cell 6; have a7 := bA7.cell 7; have a8 := bA7.cell 8
    have b0 := bB7.cell 0; have b1 := bB7.cell 1; have b2 := bB7.cell 2; have b3 := bB7.cell 3; have b4 := bB7.cell 4; have b5 := bB7.cell 5; have b6 := bB7.cell 6; have b7 := bB7.cell 7; have b8 := bB7.cell 8
    simp only [List.getElem?_toArray, List.getElem?_cons_zero, List.getElem?_cons_succ] at a0 a1 a2 a3 a4 a5 a6 a7 a8 b0 b1 b2 b3 b4 b5 b6 b7 b8
    clear bA7 bB7
    go_wp2_with fail
    refine (alike_any 0 0 ⟨0, 0, 0, 0⟩ none none none none 0 0 0 0 0 0 0 0 w7 (fun i hi => absurd hi (by omega)) (fun i hi => absurd hi (by omega)) (by decide) (by decide)).mono ?_; rintro e w8 ⟨rfl, hb8⟩
    have HB8 := Lib.hid (HB7.out.trans (hb8.mono HB7.out.size))
    clear hb8
    go_wp2_with fail
    go_ret
    exact ⟨rfl, HB8.out⟩

end Go.Proofs.Ytfjlhcapkfcpkaa
