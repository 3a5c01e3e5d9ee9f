/-
  WALKS: policy.Text.
-/
import Derived.Deep.DeepMust
import Derived.Test.YtgelaffifjicoaaGreatDoorTxts
import Derived.Test.YtgelaffifjicoaaGreatDoorOf49
namespace Go.Proofs.YtgelaffifjicoaaGreatDoor
open Go.RowKit Go.Lib
set_option linter.unusedSimpArgs false
set_option linter.unusedVariables false

theorem LibZ.like {w w' : World} (h : LibZ w) (hh : w'.heap = w.heap := by rfl) : LibZ w' := by
  obtain ⟨⟨m, h1⟩, h2, ⟨a, b, h3⟩, ⟨c, d, h4⟩⟩ := h
  refine ⟨⟨m, ?_⟩, ?_, ⟨a, b, ?_⟩, ⟨c, d, ?_⟩⟩
  · rw [← h1]; simp only [World.cell?, hh]
  · unfold Lib.TabIs at h2 ⊢; rw [← h2]; simp only [World.var?, hh]
  · rw [← h3]; simp only [World.cell?, hh]
  · rw [← h4]; simp only [World.cell?, hh]
def partB (p : Pol) (i : Nat) : ByteArray := ⟨(part p i).toArray⟩
def partsB (p : Pol) (k : Nat) : List ByteArray := (List.range k).map (partB p)
theorem partsB_succ (p : Pol) (k : Nat) : partsB p (k + 1) = partsB p k ++ [partB p k] := by simp [partsB, List.range_succ]
theorem join_parts (p : Pol) : (⟨(Lib.join ((partsB p 4).map (·.data.toList)) [32]).toArray⟩ : ByteArray) = txt p := by
  apply ba_ext
  simp [partsB, List.range, List.range.loop, partB, Lib.join, txt, txtL, parts, joinC]
theorem one_reads (w : World) (t : TypeId) (v : Value) : Reads (w.alloc (.cells #[v] t)) (w.heap.size + 1) 1 (some ⟨w.heap.size, 0, none⟩) 1 [v] := ⟨rfl, fun _ => ⟨_, rfl, by show w.heap.size < w.heap.size + 1; omega, news_cells w [v] t⟩⟩

theorem own_cap' {w : World} {b : Nat} {e : TypeId} {size : Nat} {A : Option Addr} {n c : Nat} {xs : List Value} (h : w.ownsRow b e size (.slice A n c) n xs) (hn : 0 < n) : n ≤ c := by
  rcases h.2 with ⟨h1, h2⟩ | ⟨g, cap, cur, h2, _, _, h3, _⟩
  · omega
  · injection h2 with _ _ h2; omega
set_option maxRecDepth 100000 in
set_option maxHeartbeats 4000000 in
theorem textP_any (p : Pol) (w : World) (hz : LibZ w) :
    Calls Tryz.prog 7 #[p.v] w fun e w' => e = .returned (.string (textOf p)) ∧ Below w.heap.size w w' := by
  obtain ⟨s0, hi0, hz0, hz1, hz2⟩ := info_parts infoStr
  obtain ⟨i0, i1, i2, i3⟩ := polV_at p.d p.k p.m p.y
  have HZ := Lib.hid hz
  clear hz
  go_enter Tryz.func7, Tryz.ntmps7
  have bP := Blk.new w 23 #[.int .i64 p.d, .int .i64 p.k, .int .i64 p.m, .int .i64 p.y]
  have hb : Below w.heap.size w (w.alloc (.cells #[.int .i64 p.d, .int .i64 p.k, .int .i64 p.m, .int .i64 p.y] 23)) := by (repeat' (first | with_reducible exact Below.refl _ _ | assumption | (with_reducible refine Below.drew ?_) | (with_reducible refine below_drewN ?_ _) | (with_reducible refine Below.alloc ?_ (by first | exact Nat.le_refl _ | (simp; done) | (simp; omega)) _) | (with_reducible refine Below.setCell ?_ (by first | exact Nat.le_refl _ | (simp; done) | (simp; omega)) _)))
  have hzz : w.heap.size < (w.alloc (.cells #[.int .i64 p.d, .int .i64 p.k, .int .i64 p.m, .int .i64 p.y] 23)).heap.size := by simp
  have HB := Lib.hid hb; have HP := Lib.hid bP
  clear hb bP
  go_wp2_with fail
  refine (check_any p.d p.k p.m p.y _).mono ?_; rintro e w1 ⟨rfl, hb1⟩
  have HP1 := Lib.hid (HP.out.below hb1 hzz); have HB1 := Lib.hid (HB.out.trans (hb1.mono HB.out.size))
  have hzw := HP1.out.lt
  clear hb1 hzz HP HB
  by_cases hch : p.chk = 0
  case neg =>
    have hc' : (polChk p.d p.k p.m p.y == 0) = false := by rw [beq_eq_false_iff_ne]; exact hch
    have HC := Lib.hid (textOf_no hch)
    clear hch
    go_wp2_with fail
    go_ret
    exact ⟨by rw [HC.out]; rfl, HB1.out⟩
  have HC := Lib.hid (textOf_ok hch)
  have hch' : polChk p.d p.k p.m p.y = 0 := hch
  rw [hch']
  have p0 := HP1.out.cell 0; have p1 := HP1.out.cell 1; have p2 := HP1.out.cell 2; have p3 := HP1.out.cell 3
  simp only [List.getElem?_toArray, List.getElem?_cons_zero, List.getElem?_cons_succ] at p0 p1 p2 p3
  have NN := Lib.hid (chk_num hch)
  have NN_chk := Lib.hid hch
  clear hch hch'
  go_wp2_with fail
  refine (numbers_any p.d p.k p.m p.y _).mono ?_; rintro e w2 ⟨rfl, hb2⟩
  have HB2 := Lib.hid (HB1.out.trans (hb2.mono HB1.out.size))
  have HZ2 := Lib.hid (HZ.out.below HB2.out (Nat.le_refl _))
  clear hb2 HP1 HB1 p0 p1 p2 p3
  go_wp2_with fail
  go_loopw [3, 11] (fun v i wr => ∃ k : Nat, i = .int .i64 k ∧ k ≤ 4 ∧ wr.ownsRow w2.heap.size 9 1 v k ((partsB p k).map Value.string) ∧ Below w2.heap.size w2 wr)
    (fun _ i _ => 4 - (intOf i).toNat)
  case atStart => exact ⟨0, rfl, Nat.zero_le _, World.ownsRow_nil _ _ _ _, Below.refl _ _⟩
  case round =>
    obtain ⟨k, rfl, hk, hown, hb⟩ := hrel
    obtain ⟨At, ct, rfl⟩ := own_slice hown
    rcases (show k = 0 ∨ k = 1 ∨ k = 2 ∨ k = 3 ∨ k = 4 from by omega) with rfl | rfl | rfl | rfl | rfl
    case inl =>
      have hsl : ∀ W : World, (Instr.slice 9 (.string ⟨#[100, 119, 109, 121]⟩) (some (.int .i64 0)) (some (.int .i64 1)) none).run Tryz.prog W = .ok (.string ⟨#[100]⟩) W := fun W => by kernel_rfl
      have hsl2 : ∀ W : World, (Instr.slice 9 (.string ⟨#[100, 119, 109, 121]⟩) (some (.int .i64 ((0 : Nat) : Int))) (some (.int .i64 (((0 : Nat) : Int) + 1))) none).run Tryz.prog W = .ok (.string ⟨#[100]⟩) W := fun W => by kernel_rfl
      have hwr1 : IntKind.i64.wrap 1 = 1 := by rw [IntKind.wrap_i64]; rfl
      have hsl3 : ∀ W : World, (Instr.slice 9 (.string ⟨#[100, 119, 109, 121]⟩) (some (.int .i64 0)) (some (.int .i64 (0 + 1))) none).run Tryz.prog W = .ok (.string ⟨#[100]⟩) W := fun W => by kernel_rfl
      have hNk := NN.out 0
      have hlk := len_itoa hNk
      have hf : ¬ 9223372036854775807 < (itoa (p.d)).length + 1 := by have : (itoa (p.d)).length ≤ 4 := hlk; omega
      have hNo : okI (p.d) := by obtain ⟨a, b⟩ := hNk; replace a : 0 ≤ p.d := a; replace b : p.d ≤ 1000 := b; unfold okI; omega
      have hNo1 := hNo.1
      have hNo2 := hNo.2
      have hcat := Lib.hid (show (⟨(itoa (p.d)).toArray⟩ : ByteArray) ++ ⟨#[100]⟩ = partB p 0 from ba_ext (by simp [partB, part, sgn, Pol.num]))
      have HNK := Lib.hid hNo; have HO := Lib.hid hown; have HBv := Lib.hid hb; have HPS := Lib.hid (partsB_succ p 0)
      obtain ⟨V, hV⟩ : ∃ V, V = wr := ⟨_, rfl⟩
      rw [← hV] at HO HBv ⊢
      clear hlk hNk hNo hown hb hV
      have c1 : ∀ u ∈ [Value.string ((⟨(itoa (p.d)).toArray⟩ : ByteArray) ++ ⟨#[100]⟩)], u.oneCell' = true := by simp [Value.oneCell']
      have c2 : 0 + 1 ≤ maxLen := by unfold maxLen; omega
      have c3 : (0 + 1) * 16 ≤ 140737488355328 := by omega
      have c4 : 0 < 1 := by decide
      have C1 := Lib.hid c1
      clear c1
      go_wp2_with fail
      go_region_held3 (fun _ => True) (trivial) (first | (go_at_call 16; refine (decAll_any (p.d) HNK.out _ (LibZ.like (HZ2.out.below HBv.out (Nat.le_refl _)))).mono ?_; rintro e w5 ⟨rfl, hb5⟩; have hown5 := ownsRow_below HO.out (below_like hb5 (a' := V) (b' := w5)) (Nat.le_refl _); have hs5 : w2.heap.size ≤ w5.heap.size := Nat.le_trans HBv.out.size hb5.size) | (refine step_append_any _ rfl (.tmp 15) (.tmp 23) 36 rfl w2.heap.size 9 s0 _ 1 16 Tryz.underlying36 hi0 hz0 hz1 hz2 rfl c4 _ _ _ rfl (hown5.alloc _) (w5.heap.size + 1) (some ⟨w5.heap.size, 0, none⟩) 1 1 [.string (⟨(itoa (p.d)).toArray⟩ ++ ⟨#[100]⟩)] rfl (one_reads _ _ _) C1.out c2 c3 (Nat.le_trans hs5 (Nat.le_trans (Nat.le_succ _) (Nat.le_of_eq (World.size_alloc _ _).symm))) ?_; intro v' w6 hown6 hgrow6 _))
      have hB6 := Below.grown ((HBv.out.trans ((below_like hb5 (a' := V) (b' := w5)).mono HBv.out.size)).alloc (by have h1 := HBv.out.size; have h2 := hb5.size; simp at h2 ⊢; omega) _) hgrow6 (by have h1 := HBv.out.size; have h2 := hb5.size; simp at h2 ⊢; omega) (fun jj hjj => (hown5.lt jj hjj).1)
      clear hown5 hgrow6 hb5
      go_wp2_with fail
      go_roundw
      case rel =>
        refine ⟨1, by go_num, by omega, ?_, hB6⟩
        rw [HPS.out, List.map_append, ← hcat.out]
        exact hown6
      case measure => simp [intOf]
    case inr.inl =>
      have hsl : ∀ W : World, (Instr.slice 9 (.string ⟨#[100, 119, 109, 121]⟩) (some (.int .i64 1)) (some (.int .i64 2)) none).run Tryz.prog W = .ok (.string ⟨#[119]⟩) W := fun W => by kernel_rfl
      have hsl2 : ∀ W : World, (Instr.slice 9 (.string ⟨#[100, 119, 109, 121]⟩) (some (.int .i64 ((1 : Nat) : Int))) (some (.int .i64 (((1 : Nat) : Int) + 1))) none).run Tryz.prog W = .ok (.string ⟨#[119]⟩) W := fun W => by kernel_rfl
      have hwr1 : IntKind.i64.wrap 2 = 2 := by rw [IntKind.wrap_i64]; rfl
      have hsl3 : ∀ W : World, (Instr.slice 9 (.string ⟨#[100, 119, 109, 121]⟩) (some (.int .i64 1)) (some (.int .i64 (1 + 1))) none).run Tryz.prog W = .ok (.string ⟨#[119]⟩) W := fun W => by kernel_rfl
      have hNk := NN.out 1
      have hlk := len_itoa hNk
      have hf : ¬ 9223372036854775807 < (itoa (p.k)).length + 1 := by have : (itoa (p.k)).length ≤ 4 := hlk; omega
      have hNo : okI (p.k) := by obtain ⟨a, b⟩ := hNk; replace a : 0 ≤ p.k := a; replace b : p.k ≤ 1000 := b; unfold okI; omega
      have hNo1 := hNo.1
      have hNo2 := hNo.2
      have hcat := Lib.hid (show (⟨(itoa (p.k)).toArray⟩ : ByteArray) ++ ⟨#[119]⟩ = partB p 1 from ba_ext (by simp [partB, part, sgn, Pol.num]))
      have HNK := Lib.hid hNo; have HO := Lib.hid hown; have HBv := Lib.hid hb; have HPS := Lib.hid (partsB_succ p 1)
      obtain ⟨V, hV⟩ : ∃ V, V = wr := ⟨_, rfl⟩
      rw [← hV] at HO HBv ⊢
      clear hlk hNk hNo hown hb hV
      have c1 : ∀ u ∈ [Value.string ((⟨(itoa (p.k)).toArray⟩ : ByteArray) ++ ⟨#[119]⟩)], u.oneCell' = true := by simp [Value.oneCell']
      have c2 : 1 + 1 ≤ maxLen := by unfold maxLen; omega
      have c3 : (1 + 1) * 16 ≤ 140737488355328 := by omega
      have c4 : 0 < 1 := by decide
      have C1 := Lib.hid c1
      clear c1
      go_wp2_with fail
      go_region_held3 (fun _ => True) (trivial) (first | (go_at_call 16; refine (decAll_any (p.k) HNK.out _ (LibZ.like (HZ2.out.below HBv.out (Nat.le_refl _)))).mono ?_; rintro e w5 ⟨rfl, hb5⟩; have hown5 := ownsRow_below HO.out (below_like hb5 (a' := V) (b' := w5)) (Nat.le_refl _); have hs5 : w2.heap.size ≤ w5.heap.size := Nat.le_trans HBv.out.size hb5.size) | (refine step_append_any _ rfl (.tmp 15) (.tmp 23) 36 rfl w2.heap.size 9 s0 _ 1 16 Tryz.underlying36 hi0 hz0 hz1 hz2 rfl c4 _ _ _ rfl (hown5.alloc _) (w5.heap.size + 1) (some ⟨w5.heap.size, 0, none⟩) 1 1 [.string (⟨(itoa (p.k)).toArray⟩ ++ ⟨#[119]⟩)] rfl (one_reads _ _ _) C1.out c2 c3 (Nat.le_trans hs5 (Nat.le_trans (Nat.le_succ _) (Nat.le_of_eq (World.size_alloc _ _).symm))) ?_; intro v' w6 hown6 hgrow6 _))
      have hB6 := Below.grown ((HBv.out.trans ((below_like hb5 (a' := V) (b' := w5)).mono HBv.out.size)).alloc (by have h1 := HBv.out.size; have h2 := hb5.size; simp at h2 ⊢; omega) _) hgrow6 (by have h1 := HBv.out.size; have h2 := hb5.size; simp at h2 ⊢; omega) (fun jj hjj => (hown5.lt jj hjj).1)
      clear hown5 hgrow6 hb5
      go_wp2_with fail
      go_roundw
      case rel =>
        refine ⟨2, by go_num, by omega, ?_, hB6⟩
        rw [HPS.out, List.map_append, ← hcat.out]
        exact hown6
      case measure => simp [intOf]
    case inr.inr.inl =>
      have hsl : ∀ W : World, (Instr.slice 9 (.string ⟨#[100, 119, 109, 121]⟩) (some (.int .i64 2)) (some (.int .i64 3)) none).run Tryz.prog W = .ok (.string ⟨#[109]⟩) W := fun W => by kernel_rfl
      have hsl2 : ∀ W : World, (Instr.slice 9 (.string ⟨#[100, 119, 109, 121]⟩) (some (.int .i64 ((2 : Nat) : Int))) (some (.int .i64 (((2 : Nat) : Int) + 1))) none).run Tryz.prog W = .ok (.string ⟨#[109]⟩) W := fun W => by kernel_rfl
      have hwr1 : IntKind.i64.wrap 3 = 3 := by rw [IntKind.wrap_i64]; rfl
      have hsl3 : ∀ W : World, (Instr.slice 9 (.string ⟨#[100, 119, 109, 121]⟩) (some (.int .i64 2)) (some (.int .i64 (2 + 1))) none).run Tryz.prog W = .ok (.string ⟨#[109]⟩) W := fun W => by kernel_rfl
      have hNk := NN.out 2
      have hlk := len_itoa hNk
      have hf : ¬ 9223372036854775807 < (itoa (p.m)).length + 1 := by have : (itoa (p.m)).length ≤ 4 := hlk; omega
      have hNo : okI (p.m) := by obtain ⟨a, b⟩ := hNk; replace a : 0 ≤ p.m := a; replace b : p.m ≤ 1000 := b; unfold okI; omega
      have hNo1 := hNo.1
      have hNo2 := hNo.2
      have hcat := Lib.hid (show (⟨(itoa (p.m)).toArray⟩ : ByteArray) ++ ⟨#[109]⟩ = partB p 2 from ba_ext (by simp [partB, part, sgn, Pol.num]))
      have HNK := Lib.hid hNo; have HO := Lib.hid hown; have HBv := Lib.hid hb; have HPS := Lib.hid (partsB_succ p 2)
      obtain ⟨V, hV⟩ : ∃ V, V = wr := ⟨_, rfl⟩
      rw [← hV] at HO HBv ⊢
      clear hlk hNk hNo hown hb hV
      have c1 : ∀ u ∈ [Value.string ((⟨(itoa (p.m)).toArray⟩ : ByteArray) ++ ⟨#[109]⟩)], u.oneCell' = true := by simp [Value.oneCell']
      have c2 : 2 + 1 ≤ maxLen := by unfold maxLen; omega
      have c3 : (2 + 1) * 16 ≤ 140737488355328 := by omega
      have c4 : 0 < 1 := by decide
      have C1 := Lib.hid c1
      clear c1
      go_wp2_with fail
      go_region_held3 (fun _ => True) (trivial) (first | (go_at_call 16; refine (decAll_any (p.m) HNK.out _ (LibZ.like (HZ2.out.below HBv.out (Nat.le_refl _)))).mono ?_; rintro e w5 ⟨rfl, hb5⟩; have hown5 := ownsRow_below HO.out (below_like hb5 (a' := V) (b' := w5)) (Nat.le_refl _); have hs5 : w2.heap.size ≤ w5.heap.size := Nat.le_trans HBv.out.size hb5.size) | (refine step_append_any _ rfl (.tmp 15) (.tmp 23) 36 rfl w2.heap.size 9 s0 _ 1 16 Tryz.underlying36 hi0 hz0 hz1 hz2 rfl c4 _ _ _ rfl (hown5.alloc _) (w5.heap.size + 1) (some ⟨w5.heap.size, 0, none⟩) 1 1 [.string (⟨(itoa (p.m)).toArray⟩ ++ ⟨#[109]⟩)] rfl (one_reads _ _ _) C1.out c2 c3 (Nat.le_trans hs5 (Nat.le_trans (Nat.le_succ _) (Nat.le_of_eq (World.size_alloc _ _).symm))) ?_; intro v' w6 hown6 hgrow6 _))
      have hB6 := Below.grown ((HBv.out.trans ((below_like hb5 (a' := V) (b' := w5)).mono HBv.out.size)).alloc (by have h1 := HBv.out.size; have h2 := hb5.size; simp at h2 ⊢; omega) _) hgrow6 (by have h1 := HBv.out.size; have h2 := hb5.size; simp at h2 ⊢; omega) (fun jj hjj => (hown5.lt jj hjj).1)
      clear hown5 hgrow6 hb5
      go_wp2_with fail
      go_roundw
      case rel =>
        refine ⟨3, by go_num, by omega, ?_, hB6⟩
        rw [HPS.out, List.map_append, ← hcat.out]
        exact hown6
      case measure => simp [intOf]
    case inr.inr.inr.inl =>
      have hsl : ∀ W : World, (Instr.slice 9 (.string ⟨#[100, 119, 109, 121]⟩) (some (.int .i64 3)) (some (.int .i64 4)) none).run Tryz.prog W = .ok (.string ⟨#[121]⟩) W := fun W => by kernel_rfl
      have hsl2 : ∀ W : World, (Instr.slice 9 (.string ⟨#[100, 119, 109, 121]⟩) (some (.int .i64 ((3 : Nat) : Int))) (some (.int .i64 (((3 : Nat) : Int) + 1))) none).run Tryz.prog W = .ok (.string ⟨#[121]⟩) W := fun W => by kernel_rfl
      have hwr1 : IntKind.i64.wrap 4 = 4 := by rw [IntKind.wrap_i64]; rfl
      have hsl3 : ∀ W : World, (Instr.slice 9 (.string ⟨#[100, 119, 109, 121]⟩) (some (.int .i64 3)) (some (.int .i64 (3 + 1))) none).run Tryz.prog W = .ok (.string ⟨#[121]⟩) W := fun W => by kernel_rfl
      have hNk := NN.out 3
      have hlk := len_itoa hNk
      have hf : ¬ 9223372036854775807 < (itoa (p.y)).length + 1 := by have : (itoa (p.y)).length ≤ 4 := hlk; omega
      have hNo : okI (p.y) := by obtain ⟨a, b⟩ := hNk; replace a : 0 ≤ p.y := a; replace b : p.y ≤ 1000 := b; unfold okI; omega
      have hNo1 := hNo.1
      have hNo2 := hNo.2
      have hcat := Lib.hid (show (⟨(itoa (p.y)).toArray⟩ : ByteArray) ++ ⟨#[121]⟩ = partB p 3 from ba_ext (by simp [partB, part, sgn, Pol.num]))
      have HNK := Lib.hid hNo; have HO := Lib.hid hown; have HBv := Lib.hid hb; have HPS := Lib.hid (partsB_succ p 3)
      obtain ⟨V, hV⟩ : ∃ V, V = wr := ⟨_, rfl⟩
      rw [← hV] at HO HBv ⊢
      clear hlk hNk hNo hown hb hV
      have c1 : ∀ u ∈ [Value.string ((⟨(itoa (p.y)).toArray⟩ : ByteArray) ++ ⟨#[121]⟩)], u.oneCell' = true := by simp [Value.oneCell']
      have c2 : 3 + 1 ≤ maxLen := by unfold maxLen; omega
      have c3 : (3 + 1) * 16 ≤ 140737488355328 := by omega
      have c4 : 0 < 1 := by decide
      have C1 := Lib.hid c1
      clear c1
      go_wp2_with fail
      go_region_held3 (fun _ => True) (trivial) (first | (go_at_call 16; refine (decAll_any (p.y) HNK.out _ (LibZ.like (HZ2.out.below HBv.out (Nat.le_refl _)))).mono ?_; rintro e w5 ⟨rfl, hb5⟩; have hown5 := ownsRow_below HO.out (below_like hb5 (a' := V) (b' := w5)) (Nat.le_refl _); have hs5 : w2.heap.size ≤ w5.heap.size := Nat.le_trans HBv.out.size hb5.size) | (refine step_append_any _ rfl (.tmp 15) (.tmp 23) 36 rfl w2.heap.size 9 s0 _ 1 16 Tryz.underlying36 hi0 hz0 hz1 hz2 rfl c4 _ _ _ rfl (hown5.alloc _) (w5.heap.size + 1) (some ⟨w5.heap.size, 0, none⟩) 1 1 [.string (⟨(itoa (p.y)).toArray⟩ ++ ⟨#[121]⟩)] rfl (one_reads _ _ _) C1.out c2 c3 (Nat.le_trans hs5 (Nat.le_trans (Nat.le_succ _) (Nat.le_of_eq (World.size_alloc _ _).symm))) ?_; intro v' w6 hown6 hgrow6 _))
      have hB6 := Below.grown ((HBv.out.trans ((below_like hb5 (a' := V) (b' := w5)).mono HBv.out.size)).alloc (by have h1 := HBv.out.size; have h2 := hb5.size; simp at h2 ⊢; omega) _) hgrow6 (by have h1 := HBv.out.size; have h2 := hb5.size; simp at h2 ⊢; omega) (fun jj hjj => (hown5.lt jj hjj).1)
      clear hown5 hgrow6 hb5
      go_wp2_with fail
      go_roundw
      case rel =>
        refine ⟨4, by go_num, by omega, ?_, hB6⟩
        rw [HPS.out, List.map_append, ← hcat.out]
        exact hown6
      case measure => simp [intOf]
    case inr.inr.inr.inr =>
      obtain ⟨g, c', hA, hgb, hgl⟩ := hown.form (by omega)
      obtain rfl : At = some ⟨g, 0, none⟩ := by injection hA
      have hcap := own_cap' hown (by omega)
      have hcell := hown.cells (g := g) rfl
      have hxl : (partsB p 4).length = 4 := by simp [partsB]
      have hj := Any.strings_Join joinL joinX g 0 ct (partsB p 4) ⟨#[32]⟩ wr (fun j x hx => by
        have := hcell j (.string x) (by rw [List.getElem?_map, hx]; rfl)
        rw [show (⟨g, 0, none⟩ : Addr).add j = ⟨g, 0 + j, none⟩ by unfold Addr.add; split <;> simp_all] at this
        exact this) hgl (by rw [hxl]; decide) (by rw [hxl]; exact hcap) (by
          have h0 := congrArg (fun b : ByteArray => b.data.toList.length) (join_parts p)
          have h1 := txtL_len NN_chk.out
          simp [txt] at h0
          rw [show (⟨#[32]⟩ : ByteArray).data.toList = [32] from rfl]
          omega)
      rw [hxl, show (⟨#[32]⟩ : ByteArray).data.toList = [32] from rfl, join_parts p] at hj
      have HJ := Lib.hid hj; have HBv := Lib.hid hb
      clear hj hown hb hcell hA hxl
      go_wp2_with fail
      refine HJ.out.mono ?_; rintro e w9 ⟨rfl, hb9⟩
      have hfin := HB2.out.trans ((HBv.out.trans (hb9.mono HBv.out.size)).mono HB2.out.size)
      clear hb9
      go_wp2_with fail
      go_ret
      exact ⟨by rw [HC.out]; rfl, hfin⟩

end Go.Proofs.YtgelaffifjicoaaGreatDoor
