/-
  HoldTrims: the walk. The statement 'a, b := hold.Trim(r), ref.Trim(r)' draws its order: by an invariant (XReg).
-/
import Derived.Deep.RegionHeld3
import Derived.Test.YtfjlhcapkfcpkaaParts
import Derived.Test.YtfjlhcapkfcpkaaPlain
import Derived.Test.YtfjlhcapkfcpkaaOpenP
import Derived.Test.YtfjlhcapkfcpkaaReg
namespace Go.Proofs.Ytfjlhcapkfcpkaa
open Go.RowKit
set_option linter.unusedSimpArgs false
set_option linter.unusedVariables false

/-- A root with its snapshots that stay, as cells. -/
abbrev Root.tc (r : Root) (A : Option Addr) (c : Nat) : Array Value := #[.int .i64 r.n, .int .i64 r.now, .slice A r.stay.length c, .slice r.A3 r.n3 r.c3, .int .i64 r.pol.d, .int .i64 r.pol.k, .int .i64 r.pol.m, .int .i64 r.pol.y, .slice r.A8 r.n8 r.c8]
def C0 (v : Value) (b : Bool) (s : Value) : Prop := b = true → s = v
def C1 (r : Root) (B : Nat) (b : Bool) (s : Value) (W : World) : Prop := b = true → ∃ A c, s = .agg (r.tc A c) ∧ W.ownsRow B 38 5 (.slice A r.stay.length c) r.stay.length (r.stay.flatMap Ref.cs)
def C4 (r : Root) (B : Nat) (b d : Bool) (s t : Value) (W : World) : Prop := b = true → ∃ p, s = .pointer (some ⟨p, 0, none⟩) ∧ B ≤ p ∧ p < W.heap.size ∧
  (d = false → Blk W p 28 #[.int .i64 0, .int .i64 0, .slice none 0 0, .slice none 0 0, .int .i64 0, .int .i64 0, .int .i64 0, .int .i64 0, .slice none 0 0]) ∧ (d = true → ∃ A c, t = .agg (r.tc A c) ∧ Blk W p 28 (r.tc A c))
theorem C1.below {r : Root} {B : Nat} {b : Bool} {s : Value} {W W' : World} (h : C1 r B b s W) (hb : Below W.heap.size W W') : C1 r B b s W' := fun e => by
  obtain ⟨A, c, h1, h2⟩ := h e
  exact ⟨A, c, h1, ownsRow_below h2 hb (Nat.le_refl _)⟩
theorem C4.below {r : Root} {B : Nat} {b d : Bool} {s t : Value} {W W' : World} (h : C4 r B b d s t W) (hb : Below W.heap.size W W') : C4 r B b d s t W' := fun e => by
  obtain ⟨p, h1, h2, h3, h4, h5⟩ := h e
  exact ⟨p, h1, h2, Nat.lt_of_lt_of_le h3 hb.size, fun f => (h4 f).below hb h3, fun f => by obtain ⟨A, c, h6, h7⟩ := h5 f; exact ⟨A, c, h6, h7.below hb h3⟩⟩
theorem C4.yet {r : Root} {B : Nat} {b d : Bool} {s t t' : Value} {W : World} (h : C4 r B b d s t W) (hd : d = false) : C4 r B b d s t' W := fun e => by
  obtain ⟨p, h1, h2, h3, h4, h5⟩ := h e
  exact ⟨p, h1, h2, h3, h4, fun f => by rw [hd] at f; cases f⟩
theorem own_ne_blk {w : World} {base : Nat} {e t : TypeId} {size : Nat} {v : Value} {n : Nat} {xs : List Value} {p : Nat} {cs : Array Value} (h : w.ownsRow base e size v n xs) (hb : Blk w p t cs) (hne : e ≠ t) : v.ownBlock ≠ some p := by
  rcases h.2 with ⟨rfl, _⟩ | ⟨g, cap, cur, rfl, _, hh, _⟩
  · simp [Value.ownBlock]
  · intro c
    have : g = p := by simpa [Value.ownBlock] using c
    subst this
    unfold Blk at hb
    rw [hh] at hb
    simp at hb
    exact hne hb.2
/-- A block is filled: what else there is stays. -/
theorem C1.fill {r : Root} {B : Nat} {b : Bool} {s : Value} {W : World} (h : C1 r B b s W) {p : Nat} {cs : Array Value} (hp : Blk W p 28 cs) (l : List Value) : C1 r B b s (stores W (fill p 0 l)) := fun e => by
  obtain ⟨A, c, h1, h2⟩ := h e
  refine ⟨A, c, h1, stores_owns h2 _ (fun x hx => ?_)⟩
  rw [fill_block _ _ _ _ hx]
  exact own_ne_blk h2 hp (by decide)
theorem Blk.fill {W : World} {p q : Nat} {t : TypeId} {cs : Array Value} (h : Blk W q t cs) (hne : p ≠ q) (l : List Value) : Blk (stores W (fill p 0 l)) q t cs :=
  (stores_heap _ _ _ (fun x hx => by rw [fill_block _ _ _ _ hx]; exact hne)).trans h
theorem fill_size (W : World) (l : List (Addr × Value)) : (stores W l).heap.size = W.heap.size := (stores_same l W).2.2.2
theorem C4.fill {r : Root} {B : Nat} {b d : Bool} {s t : Value} {W : World} (h : C4 r B b d s t W) {p : Nat} (hne : s ≠ .pointer (some ⟨p, 0, none⟩)) (l : List Value) : C4 r B b d s t (stores W (fill p 0 l)) := fun e => by
  obtain ⟨q, h1, h2, h3, h4, h5⟩ := h e
  have hpq : p ≠ q := fun e => hne (by rw [h1, e])
  exact ⟨q, h1, h2, by rw [fill_size]; exact h3, fun f => Blk.fill (h4 f) hpq l, fun f => by obtain ⟨A, c, h6, h7⟩ := h5 f; exact ⟨A, c, h6, Blk.fill h7 hpq l⟩⟩
theorem getD_set (L : Array Bool) (i j : Nat) (hi : i < L.size) : (L.setIfInBounds i true).getD j false = (decide (i = j) || L.getD j false) := by
  by_cases h : i = j
  · subst h; simp [hi]
  · rw [getD_set_ne false h]; simp [h]

/-- What the statement leaves. -/
def TwoTrims (r : Root) (w2 : World) (s3 s4 : Value) (W : World) : Prop := ∃ p q A c A' c', s3 = .pointer (some ⟨p, 0, none⟩) ∧ s4 = .pointer (some ⟨q, 0, none⟩) ∧ Below w2.heap.size w2 W ∧
  Blk W p 28 (r.tc A c) ∧ Blk W q 28 (r.tc A' c') ∧
  W.ownsRow w2.heap.size 38 5 (.slice A r.stay.length c) r.stay.length (r.stay.flatMap Ref.cs) ∧ W.ownsRow w2.heap.size 38 5 (.slice A' r.stay.length c') r.stay.length (r.stay.flatMap Ref.cs)

set_option maxRecDepth 100000 in
set_option maxHeartbeats 4000000 in
theorem trims_any (r : Root) (w : World) (hr : Reads w w.heap.size 5 r.A r.refs.length (r.refs.flatMap Ref.cs)) (hok : ∀ x ∈ r.refs, x.ok) (hlen : r.refs.length ≤ maxLen)
    (hP : Packs w w.heap.size r.A3 r.n3) (hC : Rows1 w w.heap.size 34 59 r.A8 r.n8) (hn3 : r.n3 ≤ maxLen) (hn8 : r.n8 ≤ maxLen) :
    Calls Try.prog 6 #[r.v] w fun e w' => e = .returned (.bool true) ∧ Below w.heap.size w w' := by
  have HP := Lib.hid hP; have HC := Lib.hid hC
  clear hP hC
  go_enter Try.func6, Try.ntmps6
  have bR := Blk.new w 28 #[.int .i64 r.n, .int .i64 r.now, .slice r.A r.refs.length r.cap, .slice r.A3 r.n3 r.c3, .int .i64 r.pol.d, .int .i64 r.pol.k, .int .i64 r.pol.m, .int .i64 r.pol.y, .slice r.A8 r.n8 r.c8]
  have hb0 : Below w.heap.size w (w.alloc (.cells #[.int .i64 r.n, .int .i64 r.now, .slice r.A r.refs.length r.cap, .slice r.A3 r.n3 r.c3, .int .i64 r.pol.d, .int .i64 r.pol.k, .int .i64 r.pol.m, .int .i64 r.pol.y, .slice r.A8 r.n8 r.c8] 28)) := (Below.refl _ _).alloc (Nat.le_refl _) _
  have HRD := Lib.hid hr
  clear hr
  go_wp2_with fail
  refine (alive_any _).mono ?_; rintro e w1 ⟨rfl, hb1⟩
  have bR1 := bR.below hb1 (by simp)
  have hb1' := hb0.trans (hb1.mono hb0.size)
  clear bR hb0 hb1
  have c2 := bR1.cell 2
  simp only [List.getElem?_toArray, List.getElem?_cons_zero, List.getElem?_cons_succ] at c2
  go_wp2_with fail
  refine (great_any r.refs r.A r.cap _ ((HRD.out.below hb1').more hb1'.size) hlen).mono ?_; rintro e w2 ⟨⟨v, rfl, hv⟩, hb2⟩
  have bR2 := bR1.below hb2 bR1.lt
  have hb2' := hb1'.trans (hb2.mono hb1'.size)
  clear bR1 hb1' hb2 c2
  have r0 := bR2.cell 0; have r1 := bR2.cell 1; have r2 := bR2.cell 2; have r3 := bR2.cell 3; have r4 := bR2.cell 4; have r5 := bR2.cell 5; have r6 := bR2.cell 6; have r7 := bR2.cell 7; have r8 := bR2.cell 8
  simp only [List.getElem?_toArray, List.getElem?_cons_zero, List.getElem?_cons_succ] at r0 r1 r2 r3 r4 r5 r6 r7 r8
  rcases hv with rfl | ⟨rfl, hfew⟩
  · go_wp2_with fail
    go_ret
    exact ⟨rfl, hb2'⟩
  have HB2 := Lib.hid hb2'; have HR2 := Lib.hid bR2
  clear hb2' bR2
  go_wp2_with fail
  clear r0 r1 r2 r3 r4 r5 r6 r7 r8
  refine wp_region_inv (by kernel_rfl) (fun L a W => ∃ s3 s4 s10 s11 s12 s13, a = { tmps := #[r.v, .pointer (some ⟨w.heap.size, 0, none⟩), .bool false, s3, s4, .bool true, .bool false, .pointer (some ⟨w.heap.size, 2, none⟩), .slice r.A r.refs.length r.cap, .bool false, s10, s11, s12, s13, undef, undef, undef, undef, undef, undef, undef, undef, undef, undef, undef, undef, undef, undef, undef, undef, undef], defers := [] } ∧ Below w2.heap.size w2 W ∧
      C0 r.v (L.getD 0 false) s10 ∧ C0 r.v (L.getD 2 false) s12 ∧ C1 r w2.heap.size (L.getD 1 false) s11 W ∧ C1 r w2.heap.size (L.getD 3 false) s13 W ∧
      C4 r w2.heap.size (L.getD 4 false) (L.getD 6 false) s3 s11 W ∧ C4 r w2.heap.size (L.getD 5 false) (L.getD 7 false) s4 s13 W ∧ (L.getD 4 false = true → L.getD 5 false = true → s3 ≠ s4) ∧
      (L.getD 6 false = true → L.getD 1 false = true ∧ L.getD 4 false = true) ∧ (L.getD 7 false = true → L.getD 3 false = true ∧ L.getD 5 false = true)) ?h0 ?hstep ?hend
  case h0 =>
    refine ⟨undef, undef, undef, undef, undef, undef, rfl, ⟨rfl, rfl, rfl, Nat.le_refl _, fun _ _ => rfl⟩, ?_, ?_, ?_, ?_, ?_, ?_, ?_, ?_, ?_⟩
    all_goals
      intro e
      rw [getD_replicate_false] at e
      cases e
  case hstep =>
    rintro L a W hs ⟨s3, s4, s10, s11, s12, s13, rfl, hB, h0, h2, h1, h3, h4, h5, h45, c6, c7⟩ i hi
    have hs8 : L.size = 8 := by simpa using hs
    have hi8 : i < 8 := by obtain ⟨h, _⟩ := unlisted_lt (mem_ready.1 hi).1; omega
    have hun := getD_both (mem_ready.1 hi).1
    have G := fun j => getD_set L i j (by omega)
    have bR := HR2.out.below hB HR2.out.lt
    have hfit : r.fits W W.heap.size := ⟨((HRD.out.below HB2.out).more HB2.out.size).below hB |>.more hB.size, hok, hfew⟩
    rcases (show i = 0 ∨ i = 1 ∨ i = 2 ∨ i = 3 ∨ i = 4 ∨ i = 5 ∨ i = 6 ∨ i = 7 from by omega) with rfl | rfl | rfl | rfl | rfl | rfl | rfl | rfl
    all_goals simp (decide := true) only [G, decide_false, Bool.false_or, decide_true, Bool.true_or]
    case inl =>
      have q0 := bR.cell 0; have q1 := bR.cell 1; have q2 := bR.cell 2; have q3 := bR.cell 3; have q4 := bR.cell 4; have q5 := bR.cell 5; have q6 := bR.cell 6; have q7 := bR.cell 7; have q8 := bR.cell 8
      simp only [List.getElem?_toArray, List.getElem?_cons_zero, List.getElem?_cons_succ] at q0 q1 q2 q3 q4 q5 q6 q7 q8
      refine wpOp_one rfl ?_
      go_wp2_with fail
      exact ⟨s3, s4, _, s11, s12, s13, rfl, hB, fun _ => rfl, h2, h1, h3, h4, h5, h45, c6, c7⟩
    case inr.inl =>
      have l0 : L.getD 0 false = true := ready_after hi rfl (by kernel_rfl)
      have l6 : L.getD 6 false = false := by
        cases h : L.getD 6 false with
        | false => rfl
        | true => exact absurd ((c6 h).1.symm.trans hun) (by decide)
      obtain rfl := h0 l0
      refine wpOp_one rfl ?_
      go_wp2_with fail
      refine (trim_any r W hfit).mono ?_; rintro e W' ⟨A, c, rfl, ho, hb⟩
      go_wp2_with fail
      exact ⟨s3, s4, _, _, s12, s13, rfl, hB.trans (hb.mono hB.size), fun _ => rfl, h2, fun _ => ⟨A, c, rfl, own_base ho hB.size⟩, h3.below hb, (h4.yet l6).below hb, h5.below hb, h45, fun e => ⟨trivial, (c6 e).2⟩, c7⟩
    case inr.inr.inl =>
      have q0 := bR.cell 0; have q1 := bR.cell 1; have q2 := bR.cell 2; have q3 := bR.cell 3; have q4 := bR.cell 4; have q5 := bR.cell 5; have q6 := bR.cell 6; have q7 := bR.cell 7; have q8 := bR.cell 8
      simp only [List.getElem?_toArray, List.getElem?_cons_zero, List.getElem?_cons_succ] at q0 q1 q2 q3 q4 q5 q6 q7 q8
      refine wpOp_one rfl ?_
      go_wp2_with fail
      exact ⟨s3, s4, s10, s11, _, s13, rfl, hB, h0, fun _ => rfl, h1, h3, h4, h5, h45, c6, c7⟩
    case inr.inr.inr.inl =>
      have l2 : L.getD 2 false = true := ready_after hi rfl (by kernel_rfl)
      have l7 : L.getD 7 false = false := by
        cases h : L.getD 7 false with
        | false => rfl
        | true => exact absurd ((c7 h).1.symm.trans hun) (by decide)
      obtain rfl := h2 l2
      refine wpOp_one rfl ?_
      go_wp2_with fail
      refine (trim50_any r W hfit).mono ?_; rintro e W' ⟨A, c, rfl, ho, hb⟩
      go_wp2_with fail
      exact ⟨s3, s4, s10, s11, _, _, rfl, hB.trans (hb.mono hB.size), h0, fun _ => rfl, h1.below hb, fun _ => ⟨A, c, rfl, own_base ho hB.size⟩, h4.below hb, (h5.yet l7).below hb, h45, c6, fun e => ⟨trivial, (c7 e).2⟩⟩
    case inr.inr.inr.inr.inl =>
      have l6 : L.getD 6 false = false := by
        cases h : L.getD 6 false with
        | false => rfl
        | true => exact absurd ((c6 h).2.symm.trans hun) (by decide)
      have hb : Below W.heap.size W (W.alloc (.cells #[.int .i64 0, .int .i64 0, .slice none 0 0, .slice none 0 0, .int .i64 0, .int .i64 0, .int .i64 0, .int .i64 0, .slice none 0 0] 28)) := (Below.refl _ W).alloc (Nat.le_refl _) _
      have hX : L.getD 5 false = true → Value.pointer (some ⟨W.heap.size, 0, none⟩) ≠ s4 := fun e hc => by
        obtain ⟨q, h6, _, h7, _⟩ := h5 e
        rw [h6] at hc
        simp at hc <;> omega
      refine wpOp_one rfl ?_
      go_wp2_with fail
      exact ⟨_, s4, s10, s11, s12, s13, rfl, hB.trans (hb.mono hB.size), h0, h2, h1.below hb, h3.below hb, fun _ => ⟨W.heap.size, rfl, hB.size, by simp, fun _ => Blk.new _ _ _, fun e => by rw [l6] at e; cases e⟩, h5.below hb, by first | exact hX | exact fun _ => hX, fun e => ⟨(c6 e).1, trivial⟩, c7⟩
    case inr.inr.inr.inr.inr.inl =>
      have l7 : L.getD 7 false = false := by
        cases h : L.getD 7 false with
        | false => rfl
        | true => exact absurd ((c7 h).2.symm.trans hun) (by decide)
      have hb : Below W.heap.size W (W.alloc (.cells #[.int .i64 0, .int .i64 0, .slice none 0 0, .slice none 0 0, .int .i64 0, .int .i64 0, .int .i64 0, .int .i64 0, .slice none 0 0] 28)) := (Below.refl _ W).alloc (Nat.le_refl _) _
      have hX : L.getD 4 false = true → s3 ≠ Value.pointer (some ⟨W.heap.size, 0, none⟩) := fun e hc => by
        obtain ⟨q, h6, _, h7, _⟩ := h4 e
        rw [h6] at hc
        simp at hc <;> omega
      refine wpOp_one rfl ?_
      go_wp2_with fail
      exact ⟨s3, _, s10, s11, s12, s13, rfl, hB.trans (hb.mono hB.size), h0, h2, h1.below hb, h3.below hb, h4.below hb, fun _ => ⟨W.heap.size, rfl, hB.size, by simp, fun _ => Blk.new _ _ _, fun e => by rw [l7] at e; cases e⟩, by first | exact hX | exact fun e _ => hX e, c6, fun e => ⟨(c7 e).1, trivial⟩⟩
    case inr.inr.inr.inr.inr.inr.inl =>
      have l4 : L.getD 4 false = true := ready_after hi rfl (by kernel_rfl)
      have l1 : L.getD 1 false = true := ready_after hi rfl (by kernel_rfl)
      have l5 : L.getD 5 false = true := ready_after hi rfl (by kernel_rfl)
      obtain ⟨p, rfl, hp1, hp2, hz, _⟩ := h4 l4
      obtain ⟨A, c, rfl, ho⟩ := h1 l1
      have bQ := hz hun
      have hne := fun e => h45 l4 l5 (Eq.symm e)
      have H1 := Lib.hid h1; have H3 := Lib.hid h3; have H5 := Lib.hid h5; have HQ := Lib.hid bQ; have HBB := Lib.hid hB; have H45 := Lib.hid h45; have HNE := Lib.hid hne
      have HH0 := Lib.hid h0; have HH2 := Lib.hid h2; have C7 := Lib.hid c7
      have q0 := bQ.cell 0; have q1 := bQ.cell 1; have q2 := bQ.cell 2; have q3 := bQ.cell 3; have q4 := bQ.cell 4; have q5 := bQ.cell 5; have q6 := bQ.cell 6; have q7 := bQ.cell 7; have q8 := bQ.cell 8
      have g0 := bQ.frozen 0; have g1 := bQ.frozen 1; have g2 := bQ.frozen 2; have g3 := bQ.frozen 3; have g4 := bQ.frozen 4; have g5 := bQ.frozen 5; have g6 := bQ.frozen 6; have g7 := bQ.frozen 7; have g8 := bQ.frozen 8
      simp only [List.getElem?_toArray, List.getElem?_cons_zero, List.getElem?_cons_succ] at q0 q1 q2 q3 q4 q5 q6 q7 q8
      clear h0 h1 h2 h3 h4 h5 h45 c6 c7 bQ hB hne hz ho hfit bR
      refine wpOp_one rfl ?_
      go_wp2_with fail
      rw [show (((((((((W.setCell ⟨p, 0, none⟩ (.int .i64 r.n)).setCell ⟨p, 1, none⟩ (.int .i64 r.now)).setCell ⟨p, 2, none⟩ (.slice A r.stay.length c)).setCell ⟨p, 3, none⟩ (.slice r.A3 r.n3 r.c3)).setCell ⟨p, 4, none⟩ (.int .i64 r.pol.d)).setCell ⟨p, 5, none⟩ (.int .i64 r.pol.k)).setCell ⟨p, 6, none⟩ (.int .i64 r.pol.m)).setCell ⟨p, 7, none⟩ (.int .i64 r.pol.y)).setCell ⟨p, 8, none⟩ (.slice r.A8 r.n8 r.c8)) = stores W (fill p 0 [.int .i64 r.n, .int .i64 r.now, .slice A r.stay.length c, .slice r.A3 r.n3 r.c3, .int .i64 r.pol.d, .int .i64 r.pol.k, .int .i64 r.pol.m, .int .i64 r.pol.y, .slice r.A8 r.n8 r.c8]) from rfl]
      have HZ := filled W w2.heap.size _ _ _ _ _ _ _ _ _ _ (.int .i64 r.n) (.int .i64 r.now) (.slice A r.stay.length c) (.slice r.A3 r.n3 r.c3) (.int .i64 r.pol.d) (.int .i64 r.pol.k) (.int .i64 r.pol.m) (.int .i64 r.pol.y) (.slice r.A8 r.n8 r.c8) HQ.out hp1
      exact ⟨_, s4, s10, _, s12, s13, rfl, HBB.out.trans HZ.2, HH0.out, HH2.out, H1.out.fill HQ.out _, H3.out.fill HQ.out _, fun _ => ⟨p, rfl, hp1, by rw [fill_size]; exact hp2, fun e => (by cases e), fun _ => ⟨A, c, rfl, HZ.1⟩⟩, H5.out.fill HNE.out _, H45.out, fun _ => ⟨l1, l4⟩, C7.out⟩
    case inr.inr.inr.inr.inr.inr.inr =>
      have l5 : L.getD 5 false = true := ready_after hi rfl (by kernel_rfl)
      have l3 : L.getD 3 false = true := ready_after hi rfl (by kernel_rfl)
      have l4 : L.getD 4 false = true := ready_after hi rfl (by kernel_rfl)
      obtain ⟨p, rfl, hp1, hp2, hz, _⟩ := h5 l5
      obtain ⟨A, c, rfl, ho⟩ := h3 l3
      have bQ := hz hun
      have hne := h45 l4 l5
      have H1 := Lib.hid h1; have H3 := Lib.hid h3; have H4 := Lib.hid h4; have HQ := Lib.hid bQ; have HBB := Lib.hid hB; have H45 := Lib.hid h45; have HNE := Lib.hid hne
      have HH0 := Lib.hid h0; have HH2 := Lib.hid h2; have C6 := Lib.hid c6
      have q0 := bQ.cell 0; have q1 := bQ.cell 1; have q2 := bQ.cell 2; have q3 := bQ.cell 3; have q4 := bQ.cell 4; have q5 := bQ.cell 5; have q6 := bQ.cell 6; have q7 := bQ.cell 7; have q8 := bQ.cell 8
      have g0 := bQ.frozen 0; have g1 := bQ.frozen 1; have g2 := bQ.frozen 2; have g3 := bQ.frozen 3; have g4 := bQ.frozen 4; have g5 := bQ.frozen 5; have g6 := bQ.frozen 6; have g7 := bQ.frozen 7; have g8 := bQ.frozen 8
      simp only [List.getElem?_toArray, List.getElem?_cons_zero, List.getElem?_cons_succ] at q0 q1 q2 q3 q4 q5 q6 q7 q8
      clear h0 h1 h2 h3 h4 h5 h45 c6 c7 bQ hB hne hz ho hfit bR
      refine wpOp_one rfl ?_
      go_wp2_with fail
      rw [show (((((((((W.setCell ⟨p, 0, none⟩ (.int .i64 r.n)).setCell ⟨p, 1, none⟩ (.int .i64 r.now)).setCell ⟨p, 2, none⟩ (.slice A r.stay.length c)).setCell ⟨p, 3, none⟩ (.slice r.A3 r.n3 r.c3)).setCell ⟨p, 4, none⟩ (.int .i64 r.pol.d)).setCell ⟨p, 5, none⟩ (.int .i64 r.pol.k)).setCell ⟨p, 6, none⟩ (.int .i64 r.pol.m)).setCell ⟨p, 7, none⟩ (.int .i64 r.pol.y)).setCell ⟨p, 8, none⟩ (.slice r.A8 r.n8 r.c8)) = stores W (fill p 0 [.int .i64 r.n, .int .i64 r.now, .slice A r.stay.length c, .slice r.A3 r.n3 r.c3, .int .i64 r.pol.d, .int .i64 r.pol.k, .int .i64 r.pol.m, .int .i64 r.pol.y, .slice r.A8 r.n8 r.c8]) from rfl]
      have HZ := filled W w2.heap.size _ _ _ _ _ _ _ _ _ _ (.int .i64 r.n) (.int .i64 r.now) (.slice A r.stay.length c) (.slice r.A3 r.n3 r.c3) (.int .i64 r.pol.d) (.int .i64 r.pol.k) (.int .i64 r.pol.m) (.int .i64 r.pol.y) (.slice r.A8 r.n8 r.c8) HQ.out hp1
      exact ⟨s3, _, s10, s11, s12, _, rfl, HBB.out.trans HZ.2, HH0.out, HH2.out, H1.out.fill HQ.out _, H3.out.fill HQ.out _, H4.out.fill HNE.out _, fun _ => ⟨p, rfl, hp1, by rw [fill_size]; exact hp2, fun e => (by cases e), fun _ => ⟨A, c, rfl, HZ.1⟩⟩, H45.out, C6.out, fun _ => ⟨l3, l5⟩⟩
  case hend =>
    rintro L a W hs ⟨s3, s4, s10, s11, s12, s13, rfl, hB, h0, h2, h1, h3, h4, h5, h45, c6, c7⟩ hr
    have l0 : L.getD 0 false = true := ended hr hs rfl (fun e he => absurd he (by simp))
    have l2 : L.getD 2 false = true := ended hr hs rfl (fun e he => absurd he (by simp))
    have l4 : L.getD 4 false = true := ended hr hs rfl (fun e he => absurd he (by simp))
    have l5 : L.getD 5 false = true := ended hr hs rfl (fun e he => absurd he (by simp))
    have l1 : L.getD 1 false = true := ended hr hs rfl (fun e he _ => by simp at he; subst he; exact l0)
    have l3 : L.getD 3 false = true := ended hr hs rfl (fun e he _ => by simp at he; rcases he with he | he <;> subst he <;> assumption)
    have l6 : L.getD 6 false = true := ended hr hs rfl (fun e he _ => by simp at he; rcases he with he | he | he | he | he | he | he | he | he <;> subst he <;> assumption)
    have l7 : L.getD 7 false = true := ended hr hs rfl (fun e he _ => by simp at he; rcases he with he | he | he | he | he | he | he | he | he | he <;> subst he <;> assumption)
    obtain ⟨p, rfl, hp1, hp2, _, hzp⟩ := h4 l4
    obtain ⟨q, rfl, hq1, hq2, _, hzq⟩ := h5 l5
    obtain ⟨A, c, rfl, ho⟩ := h1 l1
    obtain ⟨A', c', rfl, ho'⟩ := h3 l3
    obtain ⟨A1, c1, e1, bP⟩ := hzp l6
    obtain ⟨A2, c2, e2, bQ⟩ := hzq l7
    obtain rfl := h0 l0
    obtain rfl := h2 l2
    simp only [Value.agg.injEq, Array.mk.injEq, List.cons.injEq, Value.slice.injEq, and_true, true_and] at e1 e2
    obtain ⟨rfl, rfl⟩ := e1
    obtain ⟨rfl, rfl⟩ := e2
    have bR := HR2.out.below hB HR2.out.lt
    have hfit : r.fits W W.heap.size := ⟨((HRD.out.below HB2.out).more HB2.out.size).below hB |>.more hB.size, hok, hfew⟩
    have hb2 := HB2.out.trans (hB.mono HB2.out.size)
    have HB := Lib.hid hb2; have HF := Lib.hid hfit; have HO := Lib.hid ho; have HO' := Lib.hid ho'; have HR := Lib.hid bR; have HPP := Lib.hid bP; have HQQ := Lib.hid bQ
    have hsl : r.stay.length ≤ 60 := by have := stay_gone_len r; omega
    have hgl : r.gone.length ≤ 60 := by have := stay_gone_len r; omega
    clear hb2 hfit ho ho' bR bP bQ hzp hzq h0 h1 h2 h3 h4 h5 h45 c6 c7 hr hB HR2 HB2 HRD l0 l1 l2 l3 l4 l5 l6 l7 hs
    go_wp2_with fail
    have hS : ∀ w' : World, Below W.heap.size W w' → w'.cell? ⟨w.heap.size, 0, none⟩ = some (.int .i64 r.n) ∧ w'.cell? ⟨w.heap.size, 1, none⟩ = some (.int .i64 r.now) ∧ w'.cell? ⟨w.heap.size, 2, none⟩ = some (.slice r.A r.refs.length r.cap) ∧ w'.cell? ⟨w.heap.size, 3, none⟩ = some (.slice r.A3 r.n3 r.c3) ∧ w'.cell? ⟨w.heap.size, 4, none⟩ = some (.int .i64 r.pol.d) ∧ w'.cell? ⟨w.heap.size, 5, none⟩ = some (.int .i64 r.pol.k) ∧ w'.cell? ⟨w.heap.size, 6, none⟩ = some (.int .i64 r.pol.m) ∧ w'.cell? ⟨w.heap.size, 7, none⟩ = some (.int .i64 r.pol.y) ∧ w'.cell? ⟨w.heap.size, 8, none⟩ = some (.slice r.A8 r.n8 r.c8) ∧ w'.cell? ⟨p, 0, none⟩ = some (.int .i64 r.n) ∧ w'.cell? ⟨p, 1, none⟩ = some (.int .i64 r.now) ∧ w'.cell? ⟨p, 2, none⟩ = some (.slice A r.stay.length c) ∧ w'.cell? ⟨p, 3, none⟩ = some (.slice r.A3 r.n3 r.c3) ∧ w'.cell? ⟨p, 4, none⟩ = some (.int .i64 r.pol.d) ∧ w'.cell? ⟨p, 5, none⟩ = some (.int .i64 r.pol.k) ∧ w'.cell? ⟨p, 6, none⟩ = some (.int .i64 r.pol.m) ∧ w'.cell? ⟨p, 7, none⟩ = some (.int .i64 r.pol.y) ∧ w'.cell? ⟨p, 8, none⟩ = some (.slice r.A8 r.n8 r.c8) ∧ w'.cell? ⟨q, 0, none⟩ = some (.int .i64 r.n) ∧ w'.cell? ⟨q, 1, none⟩ = some (.int .i64 r.now) ∧ w'.cell? ⟨q, 2, none⟩ = some (.slice A' r.stay.length c') ∧ w'.cell? ⟨q, 3, none⟩ = some (.slice r.A3 r.n3 r.c3) ∧ w'.cell? ⟨q, 4, none⟩ = some (.int .i64 r.pol.d) ∧ w'.cell? ⟨q, 5, none⟩ = some (.int .i64 r.pol.k) ∧ w'.cell? ⟨q, 6, none⟩ = some (.int .i64 r.pol.m) ∧ w'.cell? ⟨q, 7, none⟩ = some (.int .i64 r.pol.y) ∧ w'.cell? ⟨q, 8, none⟩ = some (.slice r.A8 r.n8 r.c8) := by
      intro w' hb
      have bR := HR.out.below hb HR.out.lt
      have bP := HPP.out.below hb HPP.out.lt
      have bQ := HQQ.out.below hb HQQ.out.lt
      exact ⟨bR.cell 0, bR.cell 1, bR.cell 2, bR.cell 3, bR.cell 4, bR.cell 5, bR.cell 6, bR.cell 7, bR.cell 8, bP.cell 0, bP.cell 1, bP.cell 2, bP.cell 3, bP.cell 4, bP.cell 5, bP.cell 6, bP.cell 7, bP.cell 8, bQ.cell 0, bQ.cell 1, bQ.cell 2, bQ.cell 3, bQ.cell 4, bQ.cell 5, bQ.cell 6, bQ.cell 7, bQ.cell 8⟩
    have HSS := Lib.hid hS
    clear hS
    have hcz := Below.refl W.heap.size W
    go_region_held3 (fun w' => w'.cell? ⟨w.heap.size, 0, none⟩ = some (.int .i64 r.n) ∧ w'.cell? ⟨w.heap.size, 1, none⟩ = some (.int .i64 r.now) ∧ w'.cell? ⟨w.heap.size, 2, none⟩ = some (.slice r.A r.refs.length r.cap) ∧ w'.cell? ⟨w.heap.size, 3, none⟩ = some (.slice r.A3 r.n3 r.c3) ∧ w'.cell? ⟨w.heap.size, 4, none⟩ = some (.int .i64 r.pol.d) ∧ w'.cell? ⟨w.heap.size, 5, none⟩ = some (.int .i64 r.pol.k) ∧ w'.cell? ⟨w.heap.size, 6, none⟩ = some (.int .i64 r.pol.m) ∧ w'.cell? ⟨w.heap.size, 7, none⟩ = some (.int .i64 r.pol.y) ∧ w'.cell? ⟨w.heap.size, 8, none⟩ = some (.slice r.A8 r.n8 r.c8) ∧ w'.cell? ⟨p, 0, none⟩ = some (.int .i64 r.n) ∧ w'.cell? ⟨p, 1, none⟩ = some (.int .i64 r.now) ∧ w'.cell? ⟨p, 2, none⟩ = some (.slice A r.stay.length c) ∧ w'.cell? ⟨p, 3, none⟩ = some (.slice r.A3 r.n3 r.c3) ∧ w'.cell? ⟨p, 4, none⟩ = some (.int .i64 r.pol.d) ∧ w'.cell? ⟨p, 5, none⟩ = some (.int .i64 r.pol.k) ∧ w'.cell? ⟨p, 6, none⟩ = some (.int .i64 r.pol.m) ∧ w'.cell? ⟨p, 7, none⟩ = some (.int .i64 r.pol.y) ∧ w'.cell? ⟨p, 8, none⟩ = some (.slice r.A8 r.n8 r.c8) ∧ w'.cell? ⟨q, 0, none⟩ = some (.int .i64 r.n) ∧ w'.cell? ⟨q, 1, none⟩ = some (.int .i64 r.now) ∧ w'.cell? ⟨q, 2, none⟩ = some (.slice A' r.stay.length c') ∧ w'.cell? ⟨q, 3, none⟩ = some (.slice r.A3 r.n3 r.c3) ∧ w'.cell? ⟨q, 4, none⟩ = some (.int .i64 r.pol.d) ∧ w'.cell? ⟨q, 5, none⟩ = some (.int .i64 r.pol.k) ∧ w'.cell? ⟨q, 6, none⟩ = some (.int .i64 r.pol.m) ∧ w'.cell? ⟨q, 7, none⟩ = some (.int .i64 r.pol.y) ∧ w'.cell? ⟨q, 8, none⟩ = some (.slice r.A8 r.n8 r.c8)) (first | exact HSS.out _ hce | exact HSS.out _ hcd | exact HSS.out _ hcc | exact HSS.out _ hcb | exact HSS.out _ hca | exact HSS.out _ (below_like hcz))
      (first | (go_at_call 15; have hq := hcd; refine (alike_any r.n r.now r.pol r.A3 r.A8 A r.A r.n3 r.c3 r.n8 r.c8 r.stay.length c r.refs.length r.cap _ ?_ ?_ hn3 hn8).mono ?_; exact (HP.out.below (HB.out.trans (hcd.mono HB.out.size))).more (HB.out.trans (hcd.mono HB.out.size)).size; exact (HC.out.below (HB.out.trans (hcd.mono HB.out.size))).more (HB.out.trans (hcd.mono HB.out.size)).size; rintro e we ⟨rfl, hbe⟩; have hce : Below W.heap.size W we := hcd.trans ((below_like hbe (a' := wd) (b' := we)).mono hcd.size)) | (go_at_call 14; have hq := hcc; refine (refs50_any r.stay A A' c c' _ ?_ ?_ hsl).mono ?_; exact (Reads.of_own HO.out).below hcc |>.more hcc.size; exact (Reads.of_own HO'.out).below hcc |>.more hcc.size; rintro e wd ⟨rfl, hbd⟩; have hcd : Below W.heap.size W wd := hcc.trans ((below_like hbd (a' := wc) (b' := wd)).mono hcc.size)) | (go_at_call 14; have hq := hcb; refine (refs50_any r.gone Aa Ab ca cb _ ?_ ?_ hgl).mono ?_; exact (Reads.of_own hoa).below (below_like hbb (a' := wa) (b' := wb)) |>.more hbb.size; exact Reads.of_own hob; rintro e wc ⟨rfl, hbc⟩; have hcc : Below W.heap.size W wc := hcb.trans ((below_like hbc (a' := wb) (b' := wc)).mono hcb.size)) | (go_at_call 19; have hq := hca; refine (gone50_any r _ ?_).mono ?_; exact ⟨(HF.out.reads.below hca).more hca.size, hok, hfew⟩; rintro e wb ⟨vb, rfl, hob, hbb⟩; obtain ⟨Ab, cb, rfl⟩ := own_slice hob; have hcb : Below W.heap.size W wb := hca.trans ((below_like hbb (a' := wa) (b' := wb)).mono hca.size)) | (go_at_call 16; refine (gone_any r _ ?_).mono ?_; exact ⟨HF.out.reads, hok, hfew⟩; rintro e wa ⟨va, rfl, hoa, hba⟩; obtain ⟨Aa, ca, rfl⟩ := own_slice hoa; have hca : Below W.heap.size W wa := below_like hba (a' := W) (b' := wa)))
    have HFIN := Lib.hid (HB.out.trans (hce.mono HB.out.size))
    clear hca hcb hcc hcd hce hba hbb hbc hbd hbe hoa hob
    go_wp2_with fail
    go_ret
    exact ⟨rfl, HFIN.out⟩

end Go.Proofs.Ytfjlhcapkfcpkaa
