/-
  WALK: hold.refs's closure: a root's snapshots are handed on, and whether they are kept.
-/
import Derived.Test.YtfjlhcapkfcpkaaKeep
import Derived.RangeFuncNested
import Derived.RangeFuncBound
import Derived.RangeFuncCalls
import Derived.RangeFuncLeaves
import Derived.Shelf.Abstract
import Derived.Shelf.RegionOpen
import Derived.OwnWalkIn
import Derived.TacticsInMore
import Derived.LoopNIn
import Derived.LoopIn
namespace Go.Proofs.Ytfjlhcapkfcpkaa
open Go.RowKit Go.Shelf
set_option linter.unusedSimpArgs false
set_option linter.unusedVariables false
attribute [local go_sem] Oper.semAt_some

abbrev encRB (x : Ref × Bool) : Array Value := #[x.1.v, .bool x.2]

theorem gb_drew {w W : World} {row : Option Nat} (h : w.grownBy W row) : w.grownBy W.drew row := ⟨h.os, h.tape, h.output, h.size, h.block⟩
/-- BELOW BLOCK n₀ ALL BUT BLOCK bo IS AS IT WAS. -/
structure Keep (n₀ bo : Nat) (w w' : World) : Prop where
  os : w'.os = w.os
  tape : w'.tape = w.tape
  output : w'.output = w.output
  size : w.heap.size ≤ w'.heap.size
  block : ∀ k, k < n₀ → k ≠ bo → w'.heap[k]? = w.heap[k]?
theorem Keep.refl (n₀ bo : Nat) (w : World) : Keep n₀ bo w w := ⟨rfl, rfl, rfl, Nat.le_refl _, fun _ _ _ => rfl⟩
theorem Keep.trans {n₀ bo : Nat} {a b c : World} (h : Keep n₀ bo a b) (k : Keep n₀ bo b c) : Keep n₀ bo a c :=
  ⟨k.os.trans h.os, k.tape.trans h.tape, k.output.trans h.output, Nat.le_trans h.size k.size, fun i hi hne => (k.block i hi hne).trans (h.block i hi hne)⟩
theorem Keep.below {n₀ bo : Nat} {a b : World} (h : Keep n₀ bo a b) (hb : bo ≤ n₀) : Below bo a b := ⟨h.os, h.tape, h.output, h.size, fun k hk => h.block k (by omega) (by omega)⟩
theorem Keep.of_below {n₀ bo : Nat} {a b : World} (h : Below n₀ a b) : Keep n₀ bo a b := ⟨h.os, h.tape, h.output, h.size, fun k hk _ => h.block k hk⟩
theorem Keep.of_grownBy {n₀ bo : Nat} {a b : World} {row : Option Nat} (h : a.grownBy b row) (hn : n₀ ≤ a.heap.size) (hr : ∀ k, row = some k → k < n₀ → k = bo) : Keep n₀ bo a b :=
  ⟨h.os, h.tape, h.output, h.size, fun k hk hne => h.block k (by omega) (fun e => hne (hr k e.symm hk))⟩
theorem Keep.cell {n₀ bo : Nat} {a b : World} (h : Keep n₀ bo a b) {p : Addr} (hp : p.block < n₀) (hne : p.block ≠ bo) : b.cell? p = a.cell? p := World.cell?_of_block (h.block p.block hp hne)
theorem Keep.putObj {n₀ bo : Nat} (W : World) {l : Nat} (hl : n₀ ≤ l) (o : Obj) : Keep n₀ bo W (W.putObj l o) :=
  ⟨rfl, rfl, rfl, by simp [World.putObj], fun k hk _ => World.putObj_heap_other (by omega)⟩
/-- How a round has come out. -/
def RoundCame (J Jx : List (Ref × Bool) → World → Prop) (n₀ bo : Nat) (pre : List (Ref × Bool)) (W : World) (c : Bool) (W' : World) : Prop := (c = true ∧ J pre W' ∧ Keep n₀ bo W W') ∨ (c = false ∧ Jx pre W')

set_option maxRecDepth 100000 in
set_option maxHeartbeats 2000000 in
theorem refs1_in (m : Nat) (hm : 2 ≤ m) (l Br Bk n₀ bo : Nat) (A A' : Option Addr) (cap cap' : Nat) (xs : List Ref) (bs : List Bool) (hlen : bs.length = xs.length) (hn : xs.length ≤ 60) (hBr : Br < n₀) (hBk : Bk < n₀) (hbr : bo < Br) (hbk : bo < Bk) (J Jx : List (Ref × Bool) → World → Prop)
    (hY : ∀ pre x W, J pre W → pre.length < xs.length → YieldAt Fence.wide (m - 1) Try.prog l (encRB x) W fun e W' =>
      (e = .returned (.bool true) ∧ J (pre ++ [x]) W' ∧ Keep n₀ bo W W') ∨ (e = .returned (.bool false) ∧ Jx (pre ++ [x]) W'))
    (hJa : ∀ s W1 W2, J s W1 → W1.grownBy W2 none → J s W2)
    (W : World) (hn0 : n₀ ≤ W.heap.size) (hr : W.cell? ⟨Br, 2, none⟩ = some (.slice A xs.length cap)) (hk : W.cell? ⟨Bk, 0, none⟩ = some (.slice A' xs.length cap'))
    (hR : Reads W bo 5 A xs.length (xs.flatMap Ref.cs)) (hB : Reads W n₀ 1 A' xs.length (bs.map Value.bool)) (hlow : ∀ ad, A' = some ad → bo < ad.block) (h0 : J [] W) :
    CallsIn Fence.wide m Try.prog 37 #[.func (.yield l) #[] #[], .pointer (some ⟨Br, 0, none⟩), .pointer (some ⟨Bk, 0, none⟩)] W fun e W' => (∃ v, e = .returned v) ∧
      ((∃ ys, ys = xs.zip bs ∧ J ys W') ∨ (∃ pre, pre <+: xs.zip bs ∧ Jx pre W')) := by
  refine callsIn_of_wp Try.func37 rfl trivial ?_ rfl
  simp only [Try.ntmps37, List.size_toArray, List.length_cons, List.length_nil, Nat.reduceAdd, Nat.reduceSub, Array.replicate_succ, Array.replicate_zero, List.push_toArray, List.append_toArray, List.nil_append, List.cons_append]
  gi_wp2
  gi_loopw [9] (fun i wr => ∃ k : Nat, k ≤ xs.length ∧ i = .int .i64 k ∧ J ((xs.zip bs).take k) wr ∧ Keep n₀ bo W wr)
    (fun i _ => xs.length - (intOf i).toNat)
  case atStart => exact ⟨0, Nat.zero_le _, rfl, h0, Keep.refl _ _ _⟩
  case round =>
    obtain ⟨k, hkl, rfl, hJs, hnx⟩ := hrel
    by_cases hlt : k < xs.length
    · obtain ⟨b, o, x, rfl, hx, hbl, c0, c1, c2, c3, c4⟩ := (hR.below (hnx.below (by omega))).ref rfl hlt
      have hkb : wr.cell? ⟨Bk, 0, none⟩ = some (.slice A' xs.length cap') := (hnx.cell (p := ⟨Bk, 0, none⟩) hBk (by simp; omega)).trans hk
      obtain ⟨bb, ob, hbbl, hA', cb⟩ : ∃ bb ob, (bb < n₀ ∧ bb ≠ bo) ∧ A' = some ⟨bb, ob, none⟩ ∧ wr.cell? ⟨bb, ob + k, none⟩ = some (.bool (bs[k]'(by omega))) := by
        obtain ⟨b', o', hA, hb', hc⟩ := ((show Reads W n₀ 1 A' xs.length (bs.flatMap fun x => [Value.bool x]) from by rw [← List.map_eq_flatMap]; exact hB)).elem (k := 1) (f := fun x : Bool => [Value.bool x]) (l := bs) (fun _ => rfl) (by omega) hlen (i := k) (by omega)
        have h0' := hc 0 (by omega)
        have hne : b' ≠ bo := fun e => by have := hlow _ hA; simp at this; omega
        exact ⟨b', o', ⟨hb', hne⟩, hA, by rw [hnx.cell (p := ⟨b', o' + k, none⟩) hb' hne]; simpa using h0'⟩
      subst hA'
      obtain ⟨y, hy0⟩ : ∃ y, y = bs[k]'(by omega) := ⟨_, rfl⟩
      rw [← hy0] at cb
      have hpre : (xs.zip bs).take (k + 1) = (xs.zip bs).take k ++ [(x, y)] := by
        rw [List.take_succ_eq_append_getElem (by simp; omega), hx, hy0]; simp
      have hw3 : wr.grownBy (wr.alloc (.cells #[.string x.m, .int .i64 x.n, .int .i64 x.t, .string x.nm, .int .i64 x.u] 38)).drew none := gb_drew (World.grownBy_alloc _ _ _)
      obtain ⟨fn, tmps, assign, body, hy, hRd⟩ := hY _ (x, y) ((wr.alloc (.cells #[.string x.m, .int .i64 x.n, .int .i64 x.t, .string x.nm, .int .i64 x.u] 38)).drew) (hJa _ _ _ hJs hw3) (by simp; omega)
      rw [← hpre] at hRd
      have hRd2 : RoundIn Fence.wide (m - 1) Try.prog l fn tmps assign body ((wr.alloc (.cells #[.string x.m, .int .i64 x.n, .int .i64 x.t, .string x.nm, .int .i64 x.u] 38)).drew) fun e W' => ∃ c, e = .returned (.bool c) ∧ RoundCame J Jx n₀ bo ((xs.zip bs).take (k + 1)) wr c W' :=
        hRd.mono fun e W' h => by
          rcases h with ⟨he, hj, hb⟩ | ⟨he, hj⟩
          · exact ⟨true, he, .inl ⟨rfl, hj, ⟨hb.os, hb.tape, hb.output, Nat.le_trans (by simp) hb.size, fun j hj hne => (hb.block j hj hne).trans (Below.heap_alloc wr _ j (by have := hnx.size; omega))⟩⟩⟩
          · exact ⟨false, he, .inr ⟨rfl, hj⟩⟩
      clear hRd hpre hx hy0 hw3
      have HY := Lib.hid hY; clear hY
      simp only [encRB, Ref.v] at hy
      have hbw : b < wr.heap.size ∧ bb < wr.heap.size ∧ Bk < wr.heap.size := by have := hnx.size; omega
      gi_wp2
      gi_region_with (refine ⟨fun _ => by omega, ?_⟩; refine hRd2.mono ?_; rintro e W3 ⟨c, rfl, hP⟩)
      all_goals
        clear hy hRd2
        rcases hP with ⟨rfl, hj, hb⟩ | ⟨rfl, hj⟩
        · gi_wp2
          go_roundw
          case rel => exact ⟨k + 1, by omega, by go_num, hj, hnx.trans hb⟩
          case measure => simp [intOf]; omega
        · gi_wp2
          refine bodyPost_ret (results_none rfl _ _ _) rfl ?_
          exact ⟨⟨_, rfl⟩, .inr ⟨_, List.take_prefix _ _, hj⟩⟩
    · have hke : k = xs.length := by omega
      subst hke
      rw [List.take_of_length_le (by simp; omega)] at hJs
      gi_wp2
      go_end0
      exact ⟨⟨_, rfl⟩, .inl ⟨_, rfl, hJs⟩⟩

/-- **hold.refs's closure HANDS ON all, in its order; or a prefix of it, where a round has said 'no more'.** A round may write block bo. -/
theorem refs1_stops (m : Nat) (hm : 2 ≤ m) (Br Bk bo : Nat) (A A' : Option Addr) (cap cap' : Nat) (xs : List Ref) (bs : List Bool) (hlen : bs.length = xs.length) (hn : xs.length ≤ 60) (w : World) (hBr : Br < w.heap.size) (hBk : Bk < w.heap.size) (hbr : bo < Br) (hbk : bo < Bk)
    (hr : w.cell? ⟨Br, 2, none⟩ = some (.slice A xs.length cap)) (hk : w.cell? ⟨Bk, 0, none⟩ = some (.slice A' xs.length cap')) (hR : Reads w bo 5 A xs.length (xs.flatMap Ref.cs)) (hB : Reads w w.heap.size 1 A' xs.length (bs.map Value.bool)) (hlow : ∀ ad, A' = some ad → bo < ad.block) :
    SeqStopsK Fence.wide m Try.prog 37 #[.pointer (some ⟨Br, 0, none⟩), .pointer (some ⟨Bk, 0, none⟩)] encRB (Keep w.heap.size bo) (fun ys => ys = xs.zip bs) (fun pre => pre <+: xs.zip bs) xs.length w := fun l J Jx W hW hJ _ hY h0 =>
  refs1_in m hm l Br Bk w.heap.size bo A A' cap cap' xs bs hlen hn hBr hBk hbr hbk J Jx hY (fun s W1 W2 h1 h2 => hJ s W1 W2 none h1 h2 (fun r e => by cases e)) W hW.size
    ((hW.cell (p := ⟨Br, 2, none⟩) hBr).trans hr) ((hW.cell (p := ⟨Bk, 0, none⟩) hBk).trans hk) (hR.below (hW.mono (by omega))) (hB.below hW) hlow h0

end Go.Proofs.Ytfjlhcapkfcpkaa
