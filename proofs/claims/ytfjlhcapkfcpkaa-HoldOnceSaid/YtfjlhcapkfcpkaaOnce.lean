/-
  HoldOnce: the plain law and the walk.
-/
import Derived.Test.YtfjlhcapkfcpkaaPick
import Derived.Test.YtfjlhcapkfcpkaaSmall
import Derived.Test.YtfjlhcapkfcpkaaOpen
namespace Go.Proofs.Ytfjlhcapkfcpkaa
open Go.RowKit
set_option linter.unusedSimpArgs false
set_option linter.unusedVariables false

/-- The root after it was trimmed. -/
abbrev Root.trimmed (r : Root) (A : Option Addr) (cap : Nat) : Root := ⟨r.n, r.now, A, cap, r.stay, r.A3, r.n3, r.c3, r.pol, r.A8, r.n8, r.c8⟩
theorem stay_sub (r : Root) {x : Ref} (h : x ∈ r.stay) : x ∈ r.refs ∧ keepB r.pol r.now r.refs x = true := by
  rw [stay_eq, List.mem_filter] at h; exact h
theorem once (r : Root) {x : Ref} (h : x ∈ r.stay) : keepB r.pol r.now r.stay x = true := by
  obtain ⟨h1, h2⟩ := stay_sub r h
  rw [keepB_iff _ _ _ _ h]
  rcases (keepB_iff _ _ _ _ h1).1 h2 with c | c | ⟨j, hj, hp⟩
  · exact .inl c
  · exact .inr (.inl c)
  · refine .inr (.inr ⟨j, hj, picked_mono (fun z hz => ?_) hp⟩)
    obtain ⟨y, hy, rfl⟩ := List.mem_map.1 hz
    exact List.mem_map_of_mem (stay_sub r hy).1
theorem once_kept (r : Root) : keepF r.pol r.stay r.now = List.replicate r.stay.length true := by
  unfold keepF
  rw [List.eq_replicate_iff]
  refine ⟨by simp, fun b hb => ?_⟩
  obtain ⟨x, hx, rfl⟩ := List.mem_map.1 hb
  exact once r hx
theorem once_gone (r : Root) (A : Option Addr) (cap : Nat) : (r.trimmed A cap).gone = [] := by
  rw [gone_eq, List.filter_eq_nil_iff]
  intro x hx
  have := once r hx
  simp [this]
theorem once_stay (r : Root) (A : Option Addr) (cap : Nat) : (r.trimmed A cap).stay = r.stay := by
  rw [stay_eq, List.filter_eq_self]
  intro x hx
  exact once r hx
theorem stay_len_le (r : Root) : r.stay.length ≤ r.refs.length := by have := stay_gone_len r; omega

set_option maxRecDepth 100000 in
set_option maxHeartbeats 4000000 in
theorem once_any (r : Root) (w : World) (hr : Reads w w.heap.size 5 r.A r.refs.length (r.refs.flatMap Ref.cs)) (hok : ∀ x ∈ r.refs, x.ok) (hlen : r.refs.length ≤ maxLen) :
    Calls Try.prog 9 #[r.v] w fun e w' => e = .returned (.bool true) ∧ Below w.heap.size w w' := by
  go_enter Try.func9, Try.ntmps9
  have bR := Blk.new w 28 #[.int .i64 r.n, .int .i64 r.now, .slice r.A r.refs.length r.cap, .slice r.A3 r.n3 r.c3, .int .i64 r.pol.d, .int .i64 r.pol.k, .int .i64 r.pol.m, .int .i64 r.pol.y, .slice r.A8 r.n8 r.c8]
  have hb0 : Below w.heap.size w (w.alloc (.cells #[.int .i64 r.n, .int .i64 r.now, .slice r.A r.refs.length r.cap, .slice r.A3 r.n3 r.c3, .int .i64 r.pol.d, .int .i64 r.pol.k, .int .i64 r.pol.m, .int .i64 r.pol.y, .slice r.A8 r.n8 r.c8] 28)) := (Below.refl _ _).alloc (Nat.le_refl _) _
  have HRD := Lib.hid hr
  clear hr
  go_wp2_with fail
  refine (alive_any _).mono ?_; rintro e w1 ⟨rfl, hb1⟩
  have bR1 := bR.below hb1 (by simp)
  have hb1' := hb0.trans (hb1.mono hb0.size)
  clear bR hb0 hb1
  have c2 := bR1.cell 2
  simp only [List.getElem?_toArray, List.getElem?_cons_zero, List.getElem?_cons_succ] at c2
  go_wp2_with fail
  refine (great_any r.refs r.A r.cap _ ((HRD.out.below hb1').more hb1'.size) hlen).mono ?_; rintro e w2 ⟨⟨v, rfl, hv⟩, hb2⟩
  have bR2 := bR1.below hb2 bR1.lt
  have hb2' := hb1'.trans (hb2.mono hb1'.size)
  clear bR1 hb1' hb2 c2
  have r0 := bR2.cell 0; have r1 := bR2.cell 1; have r2 := bR2.cell 2; have r3 := bR2.cell 3; have r4 := bR2.cell 4; have r5 := bR2.cell 5; have r6 := bR2.cell 6; have r7 := bR2.cell 7; have r8 := bR2.cell 8
  simp only [List.getElem?_toArray, List.getElem?_cons_zero, List.getElem?_cons_succ] at r0 r1 r2 r3 r4 r5 r6 r7 r8
  rcases hv with rfl | ⟨rfl, hfew⟩
  · go_wp2_with fail
    go_ret
    exact ⟨rfl, hb2'⟩
  have HB2 := Lib.hid hb2'; have HR2 := Lib.hid bR2
  clear hb2' bR2
  go_wp2_with fail
  refine (trim_any r w2 ⟨(HRD.out.below HB2.out).more HB2.out.size, hok, hfew⟩).mono ?_
  rintro e w3 ⟨A2, cap2, rfl, ho, hb3⟩
  have HB3 := Lib.hid (HB2.out.trans (hb3.mono HB2.out.size))
  clear r0 r1 r2 r3 r4 r5 r6 r7 r8 HB2 HR2 hb3
  have hsl : r.stay.length ≤ 60 := by have := stay_len_le r; omega
  have hoks : ∀ x ∈ r.stay, x.ok := fun x hx => hok x (stay_sub r hx).1
  have bA := Blk.new w3 28 #[.int .i64 r.n, .int .i64 r.now, .slice A2 r.stay.length cap2, .slice r.A3 r.n3 r.c3, .int .i64 r.pol.d, .int .i64 r.pol.k, .int .i64 r.pol.m, .int .i64 r.pol.y, .slice r.A8 r.n8 r.c8]
  have hb4 := HB3.out.alloc HB3.out.size (.cells #[.int .i64 r.n, .int .i64 r.now, .slice A2 r.stay.length cap2, .slice r.A3 r.n3 r.c3, .int .i64 r.pol.d, .int .i64 r.pol.k, .int .i64 r.pol.m, .int .i64 r.pol.y, .slice r.A8 r.n8 r.c8] 28)
  have rd4 := Reads.of_own (ho.alloc (.cells #[.int .i64 r.n, .int .i64 r.now, .slice A2 r.stay.length cap2, .slice r.A3 r.n3 r.c3, .int .i64 r.pol.d, .int .i64 r.pol.k, .int .i64 r.pol.m, .int .i64 r.pol.y, .slice r.A8 r.n8 r.c8] 28))
  have a0 := bA.cell 0; have a1 := bA.cell 1; have a2 := bA.cell 2; have a3 := bA.cell 3; have a4 := bA.cell 4; have a5 := bA.cell 5; have a6 := bA.cell 6; have a7 := bA.cell 7; have a8 := bA.cell 8
  simp only [List.getElem?_toArray, List.getElem?_cons_zero, List.getElem?_cons_succ] at a0 a1 a2 a3 a4 a5 a6 a7 a8
  have HA4 := Lib.hid bA; have HB4 := Lib.hid hb4; have HD4 := Lib.hid rd4
  clear bA hb4 rd4 ho HB3
  go_wp2_with fail
  have ht := trim_any (r.trimmed A2 cap2) _ ⟨HD4.out, hoks, hsl⟩
  rw [once_stay] at ht
  refine ht.mono ?_
  rintro e w5 ⟨A5, cap5, rfl, ho5, hb5⟩
  have bA6 := (HA4.out.below hb5 HA4.out.lt).alloc (.cells #[.int .i64 r.n, .int .i64 r.now, .slice A5 r.stay.length cap5, .slice r.A3 r.n3 r.c3, .int .i64 r.pol.d, .int .i64 r.pol.k, .int .i64 r.pol.m, .int .i64 r.pol.y, .slice r.A8 r.n8 r.c8] 28)
  have bB6 := Blk.new w5 28 #[.int .i64 r.n, .int .i64 r.now, .slice A5 r.stay.length cap5, .slice r.A3 r.n3 r.c3, .int .i64 r.pol.d, .int .i64 r.pol.k, .int .i64 r.pol.m, .int .i64 r.pol.y, .slice r.A8 r.n8 r.c8]
  have hb6 := (HB4.out.trans (hb5.mono HB4.out.size)).alloc (by have := HB4.out.size; have := hb5.size; omega) (.cells #[.int .i64 r.n, .int .i64 r.now, .slice A5 r.stay.length cap5, .slice r.A3 r.n3 r.c3, .int .i64 r.pol.d, .int .i64 r.pol.k, .int .i64 r.pol.m, .int .i64 r.pol.y, .slice r.A8 r.n8 r.c8] 28)
  have rd6 := (HD4.out.below hb5).alloc hb5.size (.cells #[.int .i64 r.n, .int .i64 r.now, .slice A5 r.stay.length cap5, .slice r.A3 r.n3 r.c3, .int .i64 r.pol.d, .int .i64 r.pol.k, .int .i64 r.pol.m, .int .i64 r.pol.y, .slice r.A8 r.n8 r.c8] 28)
  have rd6' := Reads.of_own (ho5.alloc (.cells #[.int .i64 r.n, .int .i64 r.now, .slice A5 r.stay.length cap5, .slice r.A3 r.n3 r.c3, .int .i64 r.pol.d, .int .i64 r.pol.k, .int .i64 r.pol.m, .int .i64 r.pol.y, .slice r.A8 r.n8 r.c8] 28))
  have hz5 := hb5.size
  clear a0 a1 a2 a3 a4 a5 a6 a7 a8 ht
  have a1 := bA6.cell 1; have a2 := bA6.cell 2; have a4 := bA6.cell 4; have a5 := bA6.cell 5; have a6 := bA6.cell 6; have a7 := bA6.cell 7
  simp only [List.getElem?_toArray, List.getElem?_cons_zero, List.getElem?_cons_succ] at a1 a2 a4 a5 a6 a7
  have HA6 := Lib.hid bA6; have HBB6 := Lib.hid bB6; have HB6 := Lib.hid hb6; have HD6 := Lib.hid rd6; have HE6 := Lib.hid rd6'
  clear bA6 bB6 hb6 rd6 rd6' ho5 hb5 HA4 HB4 HD4
  go_wp2_with fail
  refine (keep_any r.pol r.stay hoks r.now A2 cap2 _ (HD6.out.more (Nat.le_trans hz5 (by simp))) hsl).mono ?_
  rintro e w7 ⟨vk, rfl, hok7, hb7⟩
  obtain ⟨Ak, ck, rfl⟩ := own_slice hok7
  rw [once_kept, List.map_replicate] at hok7
  have HB7 := Lib.hid (HB6.out.trans (hb7.mono HB6.out.size))
  have hA7 := HA6.out.below hb7 HA6.out.lt
  have hBB7 := HBB6.out.below hb7 HBB6.out.lt
  have hz7 := hb7.size
  have hD7 := (HD6.out.more (Nat.le_trans hz5 (by simp))).below hb7
  have hE7 := HE6.out.below hb7
  have HK7 := Lib.hid (Reads.of_own hok7)
  clear a1 a2 a4 a5 a6 a7
  have a0 := hA7.cell 0; have a1 := hA7.cell 1; have a2 := hA7.cell 2; have a3 := hA7.cell 3; have a4 := hA7.cell 4; have a5 := hA7.cell 5; have a6 := hA7.cell 6; have a7 := hA7.cell 7; have a8 := hA7.cell 8
  simp only [List.getElem?_toArray, List.getElem?_cons_zero, List.getElem?_cons_succ] at a0 a1 a2 a3 a4 a5 a6 a7 a8
  have HA7 := Lib.hid hA7; have HBB7 := Lib.hid hBB7; have HD7 := Lib.hid hD7; have HE7 := Lib.hid hE7
  clear hA7 hBB7 hD7 hE7 hok7 hb7 HA6 HBB6 HB6 HD6 HE6
  go_wp2_with fail
  have hg := gone_any (r.trimmed A2 cap2) w7 ⟨HD7.out.more hz7, hoks, hsl⟩
  rw [once_gone] at hg
  refine hg.mono ?_
  rintro e w8 ⟨vg, rfl, hog, hb8⟩
  obtain ⟨Ag, cg, rfl⟩ := own_slice hog
  have HB8 := Lib.hid (HB7.out.trans (hb8.mono HB7.out.size))
  have a2' := ((HA7.out.below hb8 HA7.out.lt)).cell 2
  have b2 := ((HBB7.out.below hb8 HBB7.out.lt)).cell 2
  simp only [List.getElem?_toArray, List.getElem?_cons_zero, List.getElem?_cons_succ] at a2' b2
  have hz8 := hb8.size
  have HD8 := Lib.hid ((HD7.out.more hz7).below hb8); have HE8 := Lib.hid ((HE7.out.more hz7).below hb8); have HK8 := Lib.hid (HK7.out.below hb8)
  have HA8 := Lib.hid (HA7.out.below hb8 HA7.out.lt)
  clear a0 a1 a2 a3 a4 a5 a6 a7 a8 hg hog hb8 HD7 HE7 HK7 HB7 HA7 HBB7
  go_wp2_with fail
  refine (refs50_any r.stay A2 A5 cap2 cap5 w8 (HD8.out.more hz8) (HE8.out.more hz8) hsl).mono ?_; rintro e w9 ⟨rfl, hb9⟩
  have HB9 := Lib.hid (HB8.out.trans (hb9.mono HB8.out.size))
  have a2 := (HA8.out.below hb9 HA8.out.lt).cell 2
  simp only [List.getElem?_toArray, List.getElem?_cons_zero, List.getElem?_cons_succ] at a2
  have HK9 := Lib.hid ((HK8.out.more hz8).below hb9)
  have hz9 := hb9.size
  have hss : ((r.stay.length : Int) == (r.stay.length : Int)) = true := by simp
  have hkl : (keepF r.pol r.stay r.now).length = r.stay.length := by simp [keepF]
  clear a2' b2 HD8 HE8 HK8 HB8 HA8 hb9
  go_wp2_with fail
  go_loopw [6] (fun i wr => ∃ k : Nat, i = .int .i64 k ∧ k ≤ r.stay.length ∧ Below w9.heap.size w9 wr)
    (fun i _ => r.stay.length - (intOf i).toNat)
  case atStart => exact ⟨0, rfl, Nat.zero_le _, Below.refl _ _⟩
  case round =>
    obtain ⟨k, rfl, hk, hb⟩ := hrel
    by_cases hlt : k < r.stay.length
    · obtain ⟨b, o, v, hA, hv, hbl, d0⟩ := ((HK9.out.more hz9).below hb).single hlt
      have hvt : v = .bool true := by
        rw [List.getElem?_replicate, if_pos hlt] at hv
        injection hv with hv; exact hv.symm
      subst hvt hA
      have hi : (k : Int) < (r.stay.length : Int) := by omega
      clear hv
      go_wp2_with fail
      go_roundw
      case rel => exact ⟨k + 1, by go_num, by omega, hb⟩
      case measure => simp [intOf]; omega
    · have hke : k = r.stay.length := by omega
      subst hke
      go_wp2_with fail
      go_ret
      exact ⟨rfl, HB9.out.trans (hb.mono HB9.out.size)⟩

end Go.Proofs.Ytfjlhcapkfcpkaa
