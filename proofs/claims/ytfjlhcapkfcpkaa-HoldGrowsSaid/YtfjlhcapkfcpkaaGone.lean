/-
  WALKS: hold.refs, hold.Gone, hold.Trim: the snapshots that may go, and the root without them.
-/
import Derived.Test.YtfjlhcapkfcpkaaIter
import Derived.RangeFuncBox
import Derived.Maps.AppendAt
namespace Go.Proofs.Ytfjlhcapkfcpkaa
open Go.RowKit Go.Shelf
set_option linter.unusedSimpArgs false
set_option linter.unusedVariables false
attribute [local go_sem] Oper.semAt_some

/-- A root: its snapshots as a list; its other slices as they are. -/
structure Root where
  n : Int
  now : Int
  A : Option Addr
  cap : Nat
  refs : List Ref
  A3 : Option Addr
  n3 : Nat
  c3 : Nat
  pol : Pol
  A8 : Option Addr
  n8 : Nat
  c8 : Nat
abbrev Root.v (r : Root) : Value := .agg #[.int .i64 r.n, .int .i64 r.now, .slice r.A r.refs.length r.cap, .slice r.A3 r.n3 r.c3, .int .i64 r.pol.d, .int .i64 r.pol.k, .int .i64 r.pol.m, .int .i64 r.pol.y, .slice r.A8 r.n8 r.c8]
/-- The root's snapshots lie below block B. -/
structure Root.fits (r : Root) (w : World) (B : Nat) : Prop where
  reads : Reads w B 5 r.A r.refs.length (r.refs.flatMap Ref.cs)
  ok : ∀ x ∈ r.refs, x.ok
  few : r.refs.length ≤ 60
/-- Whether they are kept. -/
def Root.kept (r : Root) : List Bool := keepF r.pol r.refs r.now
theorem kept_len (r : Root) : r.kept.length = r.refs.length := by simp [Root.kept, keepF]

set_option maxRecDepth 100000 in
set_option maxHeartbeats 1000000 in
/-- hold.refs: the root is boxed; so is the row of what is kept. -/
theorem refs_any (r : Root) (w : World) (hf : r.fits w w.heap.size) :
    Calls Try.prog 26 #[r.v] w fun e w' => ∃ Bk A' cap', e = .returned (.func (.func 37) #[] #[.pointer (some ⟨w.heap.size, 0, none⟩), .pointer (some ⟨Bk, 0, none⟩)]) ∧
      Bk < w'.heap.size ∧ w.heap.size < w'.heap.size ∧ w'.cell? ⟨w.heap.size, 2, none⟩ = some (.slice r.A r.refs.length r.cap) ∧ w'.cell? ⟨Bk, 0, none⟩ = some (.slice A' r.refs.length cap') ∧
      Reads w' w'.heap.size 1 A' r.refs.length (r.kept.map Value.bool) ∧ (∀ ad, A' = some ad → w.heap.size ≤ ad.block) ∧ w.heap.size ≤ Bk ∧ Below w.heap.size w w' := by
  have hmf : ∀ (fn : Fn) (first cap : Array Value) (w : World), (Instr.makeFunc fn first cap).run Try.prog w = .ok (.func fn first cap) w := fun _ _ _ _ => rfl
  go_enter Try.func26, Try.ntmps26
  go_wp2_with fail
  refine (keep_any r.pol r.refs hf.ok r.now r.A r.cap _ ?_ hf.few).mono ?_
  · exact (hf.reads.alloc (Nat.le_refl _) _).more (by simp)
  rintro e w1 ⟨v, rfl, hown, hb1⟩
  obtain ⟨A', cap', rfl⟩ := own_slice hown
  have hb : Below w.heap.size w w1 := ((Below.refl _ w).alloc (Nat.le_refl _) _).trans (hb1.mono (by simp))
  have hz : w.heap.size < w1.heap.size := by have := hb1.size; simp at this; omega
  have c2 : w1.cell? ⟨w.heap.size, 2, none⟩ = some (.slice r.A r.refs.length r.cap) := by
    rw [hb1.cell (p := ⟨w.heap.size, 2, none⟩) (by simp)]
    exact (Blk.new w _ _).cell 2
  go_wp2_with fail
  go_ret
  refine ⟨w1.heap.size, A', cap', rfl, by simp, by simp; omega, ?_, ?_, ?_, ?_, hb.size, hb.alloc hb.size _⟩
  · exact (World.cell?_alloc_lt w1 _ _ hz).trans c2
  · exact (Blk.new w1 _ _).cell 0
  · exact ((Reads.of_own hown).alloc (Nat.le_refl _) _).more (by simp)
  · rintro ad rfl
    have := (hown.lt ad.block rfl).1
    simp at this; omega

/-- Of what has come what isn't kept; what is. -/
def goneL (l : List (Ref × Bool)) : List Ref := (l.filter fun x => !x.2).map (·.1)
def stayL (l : List (Ref × Bool)) : List Ref := (l.filter fun x => x.2).map (·.1)
theorem goneL_hit (l : List (Ref × Bool)) {x : Ref × Bool} (h : x.2 = false) : goneL (l ++ [x]) = goneL l ++ [x.1] := by simp [goneL, h]
theorem goneL_miss (l : List (Ref × Bool)) {x : Ref × Bool} (h : x.2 = true) : goneL (l ++ [x]) = goneL l := by simp [goneL, h]
theorem stayL_hit (l : List (Ref × Bool)) {x : Ref × Bool} (h : x.2 = true) : stayL (l ++ [x]) = stayL l ++ [x.1] := by simp [stayL, h]
theorem stayL_miss (l : List (Ref × Bool)) {x : Ref × Bool} (h : x.2 = false) : stayL (l ++ [x]) = stayL l := by simp [stayL, h]
theorem goneL_le (l : List (Ref × Bool)) : (goneL l).length ≤ l.length := by unfold goneL; rw [List.length_map]; exact List.length_filter_le _ _
theorem stayL_le (l : List (Ref × Bool)) : (stayL l).length ≤ l.length := by unfold stayL; rw [List.length_map]; exact List.length_filter_le _ _
def Root.gone (r : Root) : List Ref := goneL (r.refs.zip r.kept)
def Root.stay (r : Root) : List Ref := stayL (r.refs.zip r.kept)

/-- A snapshot's box. -/
def BoxR (W : World) (B : Nat) (x : Ref) : Prop := W.heap[B]? = some (.cells #[.string x.m, .int .i64 x.n, .int .i64 x.t, .string x.nm, .int .i64 x.u] 38 (0, 0))
theorem boxR_own {X Y : World} {B : Nat} {x : Ref} {row : Option Nat} (h : BoxR X B x) (hg : X.grownBy Y row) (hr : ∀ r, row = some r → ∃ o : Obj, X.heap[r]? = some o ∧ o.isCells = false) : BoxR Y B x :=
  (hg.block B (Array.getElem?_eq_some_iff.1 h).1 (fun e => by
    obtain ⟨o, ho, hc⟩ := hr B e.symm
    rw [show X.heap[B]? = _ from h] at ho; cases ho; cases hc)).trans h

theorem own_base {w : World} {b b' : Nat} {e : TypeId} {size : Nat} {v : Value} {n : Nat} {xs : List Value} (h : w.ownsRow b e size v n xs) (hb : b' ≤ b) : w.ownsRow b' e size v n xs := by
  refine ⟨h.1, ?_⟩
  rcases h.2 with hn | ⟨g, cap, cur, rfl, hg, r⟩
  · exact .inl hn
  · exact .inr ⟨g, cap, cur, rfl, by omega, r⟩
/-- 'out = append(out, ..)', out in a box that lay ahead of the rows: all that the walk owes. -/
theorem collected {W w1 : World} {n₀ B : Nat} {t e : TypeId} {size : Nat} {v v' : Value} {k m : Nat} {xs ys : List Value} {tmp : Obj}
    (hv : Boxed W B t v) (hte : t ≠ e) (hrow : W.ownsRow n₀ e size v k xs) (hn₀ : n₀ ≤ W.heap.size) (hown' : w1.ownsRow n₀ e size v' m ys) (hgrow : (W.alloc tmp).grownBy w1 v.ownBlock) :
    Boxed w1 B t v ∧ Boxed (w1.setCell ⟨B, 0, none⟩ v') B t v' ∧ (w1.setCell ⟨B, 0, none⟩ v').ownsRow n₀ e size v' m ys ∧ KeepsOthers W (w1.setCell ⟨B, 0, none⟩ v') ∧ Keep n₀ B W (w1.setCell ⟨B, 0, none⟩ v') := by
  have hv1 : Boxed w1 B t v := (hv.alloc tmp).kept hgrow (hv.not_row hte hrow)
  refine ⟨hv1, hv1.set v', hown'.kept (grownBy_setCell' w1 B v') (.inr (hv1.not_row hte hown').symm), ?_, ?_⟩
  · refine ((KeepsOthers.alloc W tmp).trans (KeepsOthers.of_grownBy hgrow fun j o ej hj => ?_)).trans (KeepsOthers.setCell _ _ _)
    rcases (hrow.alloc tmp).2 with ⟨rfl, _⟩ | ⟨g, cap, cur, rfl, _, hgb, _⟩
    · simp [Value.ownBlock] at ej
    · obtain rfl : g = j := by simpa [Value.ownBlock] using ej
      rw [hgb] at hj; cases hj; rfl
  · have k1 : Keep n₀ B W (W.alloc tmp) := Keep.of_grownBy (World.grownBy_alloc W tmp none) hn₀ (fun k e => by cases e)
    have k2 : Keep n₀ B (W.alloc tmp) w1 := Keep.of_grownBy hgrow (by simp; omega) (fun k e hk => by
      have := (hrow.lt k e).1; omega)
    have hg3 := grownBy_setCell' w1 B v'
    have k3 : Keep n₀ B w1 (w1.setCell ⟨B, 0, none⟩ v') := ⟨hg3.os, hg3.tape, hg3.output, hg3.size, fun k hk hne => Below.heap_setCell _ _ _ k hne⟩
    exact (k1.trans k2).trans k3

theorem root_set (a b c d e f g h i : Value) : setMany' #[.int .i64 0, .int .i64 0, .slice none 0 0, .slice none 0 0, .int .i64 0, .int .i64 0, .int .i64 0, .int .i64 0, .slice none 0 0] 0 [a, b, c, d, e, f, g, h, i] = #[a, b, c, d, e, f, g, h, i] := by
  simp [setMany']

theorem infoRef : (Try.prog.info? 38).map (fun i => (i.zero, i.size, i.bytes)) = some (some (.agg #[.string ⟨#[]⟩, .int .i64 0, .int .i64 0, .string ⟨#[]⟩, .int .i64 0]), 5, 56) := by kernel_rfl

set_option maxRecDepth 100000 in
set_option maxHeartbeats 2000000 in
theorem gone_any (r : Root) (w : World) (hf : r.fits w w.heap.size) :
    Calls Try.prog 16 #[r.v] w fun e w' => ∃ v, e = .returned v ∧ w'.ownsRow w.heap.size 38 5 v r.gone.length (r.gone.flatMap Ref.cs) ∧ Below w.heap.size w w' := by
  obtain ⟨i0, hi, hz0, hz1, hz2⟩ := info_parts infoRef
  refine callsIn_wide.1 ((?_ : CallsIn Fence.wide 9 Try.prog 16 #[r.v] w _))
  refine callsIn_of_wp_marks Try.func16 rfl trivial ?_ rfl
  simp only [Try.ntmps16, List.size_toArray, List.length_cons, List.length_nil, Nat.reduceAdd, Nat.reduceSub, Array.replicate_succ, Array.replicate_zero, List.push_toArray, List.append_toArray, List.nil_append, List.cons_append]
  gi_wp2_with fail
  refine ⟨trivial, (callsIn_wide.2 (refs_any r _ ⟨((hf.reads.alloc (Nat.le_refl _) _).alloc (by simp) _).more (by simp; omega), hf.ok, hf.few⟩)).mono ?_⟩
  rintro e w1 ⟨Bk, A', cap', rfl, hBk, hBr, hcr, hck, hRB, hlow, hlowk, hb1⟩
  have hb0 : Below w.heap.size w w1 := (((Below.refl _ w).alloc (Nat.le_refl _) _).alloc (by simp) _).trans (hb1.mono (by simp; omega))
  have bO : Boxed w1 (w.heap.size + 1) 22 (.slice none 0 0) := by
    have h0 := Boxed.new (w.alloc (.cells #[.int .i64 r.n, .int .i64 r.now, .slice r.A r.refs.length r.cap, .slice r.A3 r.n3 r.c3, .int .i64 r.pol.d, .int .i64 r.pol.k, .int .i64 r.pol.m, .int .i64 r.pol.y, .slice r.A8 r.n8 r.c8] 28)) 22 (.slice none 0 0)
    rw [World.size_alloc] at h0
    exact (hb1.block _ (by simp)).trans h0
  simp only [World.size_alloc] at hBr hcr hlow hlowk
  have hfew := hf.few
  clear hb1
  gi_wp2
  refine wpIn_rangeFunc_ownH rfl (by omega) (gf := 37) (lb := #[.pointer (some ⟨w.heap.size + 1 + 1, 0, none⟩), .pointer (some ⟨Bk, 0, none⟩)]) rfl trivial (enters_of Try.func37 (by kernel_rfl) rfl)
    (refs1_stops (9 - 1) (by omega) (w.heap.size + 1 + 1) Bk (w.heap.size + 1) r.A A' r.cap cap' r.refs r.kept (kept_len r) hf.few w1 hBr hBk (by omega) (by omega) hcr hck ((hf.reads.below hb0).more (by omega)) hRB (fun ad e => by have := hlow ad e; omega)) Keep.trans (fun W l o o' hl _ _ _ => Keep.putObj W hl o') (Below.refl _ _) (fun _ => rfl)
    (fun pre W => (∃ v, Boxed W (w.heap.size + 1) 22 v ∧ W.ownsRow w1.heap.size 38 5 v (goneL pre).length ((goneL pre).flatMap Ref.cs) ∧ True) ∧ (Below w.heap.size w W ∧ w1.heap.size ≤ W.heap.size))
    (fun _ _ _ => False)
    (OwnFrom.and (Own.from (holdsRow_own w1.heap.size (w.heap.size + 1) 22 38 5 (fun pre => (goneL pre).length) (fun pre => (goneL pre).flatMap Ref.cs) (fun _ _ => True)) _) (OwnFrom.and (ownFrom_below (Nat.le_refl _) hb0.size) (fun _ X Y row hs hg hr => Nat.le_trans hs hg.size)))
    (fun _ _ _ _ _ hs _ _ => hs)
    ⟨⟨_, bO, World.ownsRow_nil _ _ _ _, trivial⟩, hb0, Nat.le_refl _⟩
    (fun x a' W => ∃ Bx, w.heap.size + 1 < Bx ∧ BoxR W Bx x.1 ∧ a' = { tmps := #[r.v, .pointer (some ⟨w.heap.size, 0, none⟩), .slice none 0 0, .pointer (some ⟨w.heap.size + 1, 0, none⟩), .pointer (some ⟨Bx, 0, none⟩), .bool x.2, r.v, .func (.func 37) #[] #[.pointer (some ⟨w.heap.size + 1 + 1, 0, none⟩), .pointer (some ⟨Bk, 0, none⟩)], x.1.v, .bool x.2, undef, undef, undef, undef, undef, undef, undef], defers := [] })
    (fun x a' _ X Y row hs hg hr => by obtain ⟨Bx, h1, h2, h3⟩ := hs; exact ⟨Bx, h1, boxR_own h2 hg (fun r e => (hr r e).2), h3⟩)
    ?assign ?body ?done ?stop
  case assign =>
    rintro l pre x W K ⟨⟨v, hv, hrow, _⟩, hB, hS⟩ hK
    gi_wp2
    exact hK _ _ ((KeepsOthers.alloc _ _).from _) (Keep.of_grownBy (World.grownBy_alloc W _ none) hS (fun k e => by cases e)) ⟨⟨v, hv.alloc _, hrow.alloc _, trivial⟩, hB.alloc hB.size _, by simp; omega⟩ ⟨W.heap.size, hv.lt, heap_alloc_new _ _, rfl⟩
  case body =>
    rintro l pre x a' W hl hrr ⟨⟨v, hv, hrow, _⟩, hB, hS⟩ ⟨Bx, hBx, bX, rfl⟩ hlt
    have hc := hv.cell
    have x0 : W.cell? ⟨Bx, 0, none⟩ = some (.string x.1.m) := by simp [World.cell?, show W.heap[Bx]? = _ from bX]
    have x1 : W.cell? ⟨Bx, 1, none⟩ = some (.int .i64 x.1.n) := by simp [World.cell?, show W.heap[Bx]? = _ from bX]
    have x2 : W.cell? ⟨Bx, 2, none⟩ = some (.int .i64 x.1.t) := by simp [World.cell?, show W.heap[Bx]? = _ from bX]
    have x3 : W.cell? ⟨Bx, 3, none⟩ = some (.string x.1.nm) := by simp [World.cell?, show W.heap[Bx]? = _ from bX]
    have x4 : W.cell? ⟨Bx, 4, none⟩ = some (.int .i64 x.1.u) := by simp [World.cell?, show W.heap[Bx]? = _ from bX]
    have hpl := goneL_le pre
    clear bX hrr hcr hck hRB
    cases hx2 : x.2 with
    | true =>
      gi_wp2
      exact ⟨KeepsFrom.refl _ _, Keep.refl _ _ _, ⟨v, hv, by rw [goneL_miss pre hx2]; exact hrow, trivial⟩, hB, hS⟩
    | false =>
      gi_wp2_with (gi_at_builtin; refine wpListIn_append_own _ rfl (.tmp 12) (.tmp 14) 22 rfl w1.heap.size 38 i0 _ 5 56 Try.underlying22 hi hz0 hz1 hz2 rfl (by decide) _ _ _ rfl (hrow.alloc _) ⟨W.heap.size, 0, none⟩ 1 1 x.1.cs rfl rfl (news_cells W x.1.cs _) (by simp [Ref.cs, Value.oneCell']) (by unfold maxLen; omega) (by omega) (by simp; omega) ?_; intro v' w2 hown' hgrow _; obtain ⟨g', cap2, rfl⟩ := ownsRow_succ hown'; obtain ⟨hv1, hv2, hr2, hk2, hb2⟩ := collected hv (by decide) hrow hS hown' hgrow; have hc1 := hv1.cell; have hf1 := hv1.frozen)
      exact ⟨hk2.from _, hb2, ⟨_, hv2, by rw [goneL_hit pre hx2, List.flatMap_append]; simpa using hr2, trivial⟩, hB.trans ((hb2.below (by omega)).mono (by omega)), Nat.le_trans hS hb2.size⟩
  case done =>
    rintro D ys W hD rfl ⟨⟨v, hv, hrow, _⟩, hB, hS⟩ hK
    have hc := hv.cell
    obtain ⟨A2, cap2, rfl⟩ := own_slice hrow
    gi_wp2
    refine ⟨by simp, .inl ⟨_, _, rfl, run_takeDeferred hK, ?_⟩⟩
    exact ⟨_, results_tmp rfl _ _ _, _, rfl, ownsRow_putObj (own_base hrow hb0.size) _ hK rfl, hB.trans (belowK_b (w := w) (Nat.le_refl _) W D _ _ (by have := hb0.size; omega) hK rfl rfl)⟩
  case stop =>
    rintro D c pre W _ _ h _
    exact h.elim

set_option maxRecDepth 100000 in
set_option maxHeartbeats 2000000 in
theorem trim_any (r : Root) (w : World) (hf : r.fits w w.heap.size) :
    Calls Try.prog 17 #[r.v] w fun e w' => ∃ A2 cap2, e = .returned (.agg #[.int .i64 r.n, .int .i64 r.now, .slice A2 r.stay.length cap2, .slice r.A3 r.n3 r.c3, .int .i64 r.pol.d, .int .i64 r.pol.k, .int .i64 r.pol.m, .int .i64 r.pol.y, .slice r.A8 r.n8 r.c8]) ∧
      w'.ownsRow w.heap.size 38 5 (.slice A2 r.stay.length cap2) r.stay.length (r.stay.flatMap Ref.cs) ∧ Below w.heap.size w w' := by
  obtain ⟨i0, hi, hz0, hz1, hz2⟩ := info_parts infoRef
  refine callsIn_wide.1 ((?_ : CallsIn Fence.wide 9 Try.prog 17 #[r.v] w _))
  refine callsIn_of_wp_marks Try.func17 rfl trivial ?_ rfl
  simp only [Try.ntmps17, List.size_toArray, List.length_cons, List.length_nil, Nat.reduceAdd, Nat.reduceSub, Array.replicate_succ, Array.replicate_zero, List.push_toArray, List.append_toArray, List.nil_append, List.cons_append]
  gi_wp2_with fail
  refine ⟨trivial, (callsIn_wide.2 (refs_any r _ ⟨(((hf.reads.alloc (Nat.le_refl _) _).alloc (by simp) _).alloc (by simp; omega) _).more (by simp; omega), hf.ok, hf.few⟩)).mono ?_⟩
  rintro e w1 ⟨Bk, A', cap', rfl, hBk, hBr, hcr, hck, hRB, hlow, hlowk, hb1⟩
  have hb0 : Below w.heap.size w w1 := ((((Below.refl _ w).alloc (Nat.le_refl _) _).alloc (by simp) _).alloc (by simp; omega) _).trans (hb1.mono (by simp; omega))
  have bO : Boxed w1 (w.heap.size + 1 + 1) 22 (.slice none 0 0) := by
    have h0 := Boxed.new ((w.alloc (.cells #[.int .i64 r.n, .int .i64 r.now, .slice r.A r.refs.length r.cap, .slice r.A3 r.n3 r.c3, .int .i64 r.pol.d, .int .i64 r.pol.k, .int .i64 r.pol.m, .int .i64 r.pol.y, .slice r.A8 r.n8 r.c8] 28)).alloc (.cells #[.int .i64 0, .int .i64 0, .slice none 0 0, .slice none 0 0, .int .i64 0, .int .i64 0, .int .i64 0, .int .i64 0, .slice none 0 0] 28)) 22 (.slice none 0 0)
    rw [World.size_alloc, World.size_alloc] at h0
    exact (hb1.block _ (by simp)).trans h0
  have bR : Blk w1 w.heap.size 28 #[.int .i64 r.n, .int .i64 r.now, .slice r.A r.refs.length r.cap, .slice r.A3 r.n3 r.c3, .int .i64 r.pol.d, .int .i64 r.pol.k, .int .i64 r.pol.m, .int .i64 r.pol.y, .slice r.A8 r.n8 r.c8] := (hb1.block _ (by simp; omega)).trans (((Blk.new w _ _).alloc _).alloc _)
  have bQ : Blk w1 (w.heap.size + 1) 28 #[.int .i64 0, .int .i64 0, .slice none 0 0, .slice none 0 0, .int .i64 0, .int .i64 0, .int .i64 0, .int .i64 0, .slice none 0 0] := by
    have h0 := Blk.new (w.alloc (.cells #[.int .i64 r.n, .int .i64 r.now, .slice r.A r.refs.length r.cap, .slice r.A3 r.n3 r.c3, .int .i64 r.pol.d, .int .i64 r.pol.k, .int .i64 r.pol.m, .int .i64 r.pol.y, .slice r.A8 r.n8 r.c8] 28)) 28 #[.int .i64 0, .int .i64 0, .slice none 0 0, .slice none 0 0, .int .i64 0, .int .i64 0, .int .i64 0, .int .i64 0, .slice none 0 0]
    rw [World.size_alloc] at h0
    exact (hb1.block _ (by simp)).trans (h0.alloc _)
  simp only [World.size_alloc] at hBr hcr hlow hlowk
  have hfew := hf.few
  clear hb1
  gi_wp2
  refine wpIn_rangeFunc_ownH rfl (by omega) (gf := 37) (lb := #[.pointer (some ⟨w.heap.size + 1 + 1 + 1, 0, none⟩), .pointer (some ⟨Bk, 0, none⟩)]) rfl trivial (enters_of Try.func37 (by kernel_rfl) rfl)
    (refs1_stops (9 - 1) (by omega) (w.heap.size + 1 + 1 + 1) Bk (w.heap.size + 1 + 1) r.A A' r.cap cap' r.refs r.kept (kept_len r) hf.few w1 hBr hBk (by omega) (by omega) hcr hck ((hf.reads.below hb0).more (by omega)) hRB (fun ad e => by have := hlow ad e; omega)) Keep.trans (fun W l o o' hl _ _ _ => Keep.putObj W hl o') (Below.refl _ _) (fun _ => rfl)
    (fun pre W => (∃ v, Boxed W (w.heap.size + 1 + 1) 22 v ∧ W.ownsRow w1.heap.size 38 5 v (stayL pre).length ((stayL pre).flatMap Ref.cs) ∧ True) ∧ (Below (w.heap.size + 1 + 1) w1 W ∧ w1.heap.size ≤ W.heap.size))
    (fun _ _ _ => False)
    (OwnFrom.and (Own.from (holdsRow_own w1.heap.size (w.heap.size + 1 + 1) 22 38 5 (fun pre => (stayL pre).length) (fun pre => (stayL pre).flatMap Ref.cs) (fun _ _ => True)) _) (OwnFrom.and (ownFrom_below (by omega) (by omega)) (fun _ X Y row hs hg hr => Nat.le_trans hs hg.size)))
    (fun _ _ _ _ _ hs _ _ => hs)
    ⟨⟨_, bO, World.ownsRow_nil _ _ _ _, trivial⟩, Below.refl _ _, Nat.le_refl _⟩
    (fun x a' W => ∃ Bx, w.heap.size + 1 + 1 < Bx ∧ BoxR W Bx x.1 ∧ a' = { tmps := #[r.v, .pointer (some ⟨w.heap.size, 0, none⟩), .pointer (some ⟨w.heap.size + 1, 0, none⟩), .pointer (some ⟨w.heap.size + 1 + 1, 0, none⟩), .pointer (some ⟨Bx, 0, none⟩), .bool x.2, r.v, .func (.func 37) #[] #[.pointer (some ⟨w.heap.size + 1 + 1 + 1, 0, none⟩), .pointer (some ⟨Bk, 0, none⟩)], x.1.v, .bool x.2, undef, undef, undef, undef, undef, undef, undef, undef], defers := [] })
    (fun x a' _ X Y row hs hg hr => by obtain ⟨Bx, h1, h2, h3⟩ := hs; exact ⟨Bx, h1, boxR_own h2 hg (fun r e => (hr r e).2), h3⟩)
    ?assign ?body ?done ?stop
  case assign =>
    rintro l pre x W K ⟨⟨v, hv, hrow, _⟩, hB, hS⟩ hK
    gi_wp2
    exact hK _ _ ((KeepsOthers.alloc _ _).from _) (Keep.of_grownBy (World.grownBy_alloc W _ none) hS (fun k e => by cases e)) ⟨⟨v, hv.alloc _, hrow.alloc _, trivial⟩, hB.alloc (by omega) _, by simp; omega⟩ ⟨W.heap.size, hv.lt, heap_alloc_new _ _, rfl⟩
  case body =>
    rintro l pre x a' W hl hrr ⟨⟨v, hv, hrow, _⟩, hB, hS⟩ ⟨Bx, hBx, bX, rfl⟩ hlt
    have hc := hv.cell
    have x0 : W.cell? ⟨Bx, 0, none⟩ = some (.string x.1.m) := by simp [World.cell?, show W.heap[Bx]? = _ from bX]
    have x1 : W.cell? ⟨Bx, 1, none⟩ = some (.int .i64 x.1.n) := by simp [World.cell?, show W.heap[Bx]? = _ from bX]
    have x2 : W.cell? ⟨Bx, 2, none⟩ = some (.int .i64 x.1.t) := by simp [World.cell?, show W.heap[Bx]? = _ from bX]
    have x3 : W.cell? ⟨Bx, 3, none⟩ = some (.string x.1.nm) := by simp [World.cell?, show W.heap[Bx]? = _ from bX]
    have x4 : W.cell? ⟨Bx, 4, none⟩ = some (.int .i64 x.1.u) := by simp [World.cell?, show W.heap[Bx]? = _ from bX]
    have hpl := stayL_le pre
    clear bX hrr hcr hck hRB
    cases hx2 : x.2 with
    | false =>
      gi_wp2
      exact ⟨KeepsFrom.refl _ _, Keep.refl _ _ _, ⟨v, hv, by rw [stayL_miss pre hx2]; exact hrow, trivial⟩, hB, hS⟩
    | true =>
      gi_wp2_with (gi_at_builtin; refine wpListIn_append_own _ rfl (.tmp 11) (.tmp 13) 22 rfl w1.heap.size 38 i0 _ 5 56 Try.underlying22 hi hz0 hz1 hz2 rfl (by decide) _ _ _ rfl (hrow.alloc _) ⟨W.heap.size, 0, none⟩ 1 1 x.1.cs rfl rfl (news_cells W x.1.cs _) (by simp [Ref.cs, Value.oneCell']) (by unfold maxLen; omega) (by omega) (by simp; omega) ?_; intro v' w2 hown' hgrow _; obtain ⟨g', cap2, rfl⟩ := ownsRow_succ hown'; obtain ⟨hv1, hv2, hr2, hk2, hb2⟩ := collected hv (by decide) hrow hS hown' hgrow; have hc1 := hv1.cell; have hf1 := hv1.frozen)
      exact ⟨hk2.from _, hb2, ⟨_, hv2, by rw [stayL_hit pre hx2, List.flatMap_append]; simpa using hr2, trivial⟩, hB.trans (hb2.below (by omega)), Nat.le_trans hS hb2.size⟩
  case done =>
    rintro D ys W hD rfl ⟨⟨v, hv, hrow, _⟩, hB, hS⟩ hK
    have hc := hv.cell
    obtain ⟨A2, cap2, rfl⟩ := own_slice hrow
    replace bR := bR.below hB (by omega)
    replace bQ := bQ.below hB (by omega)
    have r0 := bR.cell 0; have r1 := bR.cell 1; have r2 := bR.cell 2; have r3 := bR.cell 3; have r4 := bR.cell 4; have r5 := bR.cell 5; have r6 := bR.cell 6; have r7 := bR.cell 7; have r8 := bR.cell 8
    have q0 := bQ.cell 0; have q1 := bQ.cell 1; have q2 := bQ.cell 2; have q3 := bQ.cell 3; have q4 := bQ.cell 4; have q5 := bQ.cell 5; have q6 := bQ.cell 6; have q7 := bQ.cell 7; have q8 := bQ.cell 8
    have f2 := bR.frozen 2
    have g0 := bQ.frozen 0; have g1 := bQ.frozen 1; have g2 := bQ.frozen 2; have g3 := bQ.frozen 3; have g4 := bQ.frozen 4; have g5 := bQ.frozen 5; have g6 := bQ.frozen 6; have g7 := bQ.frozen 7; have g8 := bQ.frozen 8
    simp only [List.getElem?_toArray, List.getElem?_cons_zero, List.getElem?_cons_succ] at r0 r1 r2 r3 r4 r5 r6 r7 r8 q0 q1 q2 q3 q4 q5 q6 q7 q8
    gi_wp2
    have hw1z := hb0.size
    have hlow2 : ∀ b, b < w1.heap.size → (Value.slice A2 (stayL (r.refs.zip r.kept)).length cap2).ownBlock ≠ some b := fun b hb e => by have := (hrow.lt b e).1; omega
    have hDne : D ≠ w.heap.size ∧ D ≠ w.heap.size + 1 := by omega
    obtain ⟨Wf, hWf⟩ : ∃ Wf, Wf = stores W ((⟨w.heap.size, 2, none⟩, .slice A2 (stayL (r.refs.zip r.kept)).length cap2) :: fill (w.heap.size + 1) 0 [.int .i64 r.n, .int .i64 r.now, .slice A2 (stayL (r.refs.zip r.kept)).length cap2, .slice r.A3 r.n3 r.c3, .int .i64 r.pol.d, .int .i64 r.pol.k, .int .i64 r.pol.m, .int .i64 r.pol.y, .slice r.A8 r.n8 r.c8]) := ⟨_, rfl⟩
    have hblk : ∀ p ∈ ((⟨w.heap.size, 2, none⟩, .slice A2 (stayL (r.refs.zip r.kept)).length cap2) :: fill (w.heap.size + 1) 0 [.int .i64 r.n, .int .i64 r.now, .slice A2 (stayL (r.refs.zip r.kept)).length cap2, .slice r.A3 r.n3 r.c3, .int .i64 r.pol.d, .int .i64 r.pol.k, .int .i64 r.pol.m, .int .i64 r.pol.y, .slice r.A8 r.n8 r.c8] : List (Addr × Value)), p.1.block = w.heap.size ∨ p.1.block = w.heap.size + 1 := by
      intro p hp
      rcases List.mem_cons.1 hp with rfl | hp
      · exact .inl rfl
      · exact .inr (fill_block _ _ _ _ hp)
    have bF : Blk Wf (w.heap.size + 1) 28 #[.int .i64 r.n, .int .i64 r.now, .slice A2 (stayL (r.refs.zip r.kept)).length cap2, .slice r.A3 r.n3 r.c3, .int .i64 r.pol.d, .int .i64 r.pol.k, .int .i64 r.pol.m, .int .i64 r.pol.y, .slice r.A8 r.n8 r.c8] := by
      have h0 := stores_fill [.int .i64 r.n, .int .i64 r.now, .slice A2 (stayL (r.refs.zip r.kept)).length cap2, .slice r.A3 r.n3 r.c3, .int .i64 r.pol.d, .int .i64 r.pol.k, .int .i64 r.pol.m, .int .i64 r.pol.y, .slice r.A8 r.n8 r.c8] _ 0 _ (bQ.far (p := ⟨w.heap.size, 2, none⟩) (by simp) (.slice A2 (stayL (r.refs.zip r.kept)).length cap2))
      rw [root_set] at h0
      rw [hWf, stores]
      exact h0
    have oF : Wf.ownsRow w1.heap.size 38 5 (.slice A2 (stayL (r.refs.zip r.kept)).length cap2) (stayL (r.refs.zip r.kept)).length ((stayL (r.refs.zip r.kept)).flatMap Ref.cs) := by
      rw [hWf]
      exact stores_owns hrow _ (fun p hp => hlow2 _ (by rcases hblk p hp with e | e <;> omega))
    have kF : Wf.heap[D]? = some (.deferred (some [])) := by
      rw [hWf, stores_heap _ _ _ (fun p hp => by rcases hblk p hp with e | e <;> omega)]
      exact hK
    have eF : Below w.heap.size w Wf := by
      rw [hWf]
      exact (hb0.trans (hB.mono (by omega))).trans (stores_below _ _ (fun p hp => by rcases hblk p hp with e | e <;> omega))
    change bodyPostM _ _ _ _ _ _ _ (stores W ((⟨w.heap.size, 2, none⟩, .slice A2 (stayL (r.refs.zip r.kept)).length cap2) :: fill (w.heap.size + 1) 0 [.int .i64 r.n, .int .i64 r.now, .slice A2 (stayL (r.refs.zip r.kept)).length cap2, .slice r.A3 r.n3 r.c3, .int .i64 r.pol.d, .int .i64 r.pol.k, .int .i64 r.pol.m, .int .i64 r.pol.y, .slice r.A8 r.n8 r.c8]))
    rw [← hWf]
    clear hWf hrow hK hB bQ bR hlow2 hc hv hblk
    refine ⟨by simp, .inl ⟨_, _, rfl, run_takeDeferred kF, ?_⟩⟩
    have bF' : Blk (Wf.putObj D (.deferred none)) (w.heap.size + 1) 28 _ := bF.grown (grownBy_putObj' Wf D _) (fun e => by injection e with e; omega)
    have q0 := bF'.cell 0; have q1 := bF'.cell 1; have q2 := bF'.cell 2; have q3 := bF'.cell 3; have q4 := bF'.cell 4; have q5 := bF'.cell 5; have q6 := bF'.cell 6; have q7 := bF'.cell 7; have q8 := bF'.cell 8
    simp only [List.getElem?_toArray, List.getElem?_cons_zero, List.getElem?_cons_succ] at q0 q1 q2 q3 q4 q5 q6 q7 q8
    refine ⟨_, ?_, A2, cap2, rfl, ownsRow_putObj (own_base oF hb0.size) _ kF rfl, eF.trans (belowK_b (w := w) (Nat.le_refl _) Wf D _ _ (by omega) kF rfl rfl)⟩
    simp [results, Try.results17, go_sem, q0, q1, q2, q3, q4, q5, q6, q7, q8]
    rfl
  case stop =>
    rintro D c pre W _ _ h _
    exact h.elim

end Go.Proofs.Ytfjlhcapkfcpkaa
