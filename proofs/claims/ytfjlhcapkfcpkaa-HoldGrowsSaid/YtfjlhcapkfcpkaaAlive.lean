/-
  WALK: the law's own example, and what it comes to.
-/
import Derived.Laws.Tables
import Derived.Test.YtfjlhcapkfcpkaaEqr
namespace Go.Proofs.Ytfjlhcapkfcpkaa
open Go.RowKit
set_option linter.unusedSimpArgs false
set_option linter.unusedVariables false

def exM : ByteArray := ⟨#[109]⟩
def exA : Ref := ⟨exM, 1, 1, ⟨#[]⟩, 0⟩
def exB : Ref := ⟨exM, 2, 2, ⟨#[]⟩, 0⟩
def exC : Ref := ⟨exM, 1, 1, ⟨#[]⟩, 2000⟩
def exP : Pol := ⟨1, 0, 0, 0⟩
theorem srt2 (a b : One) : srt [a, b] = if 0 ≤ cf b a then [a, b] else [b, a] := by
  unfold srt
  simp [List.mergeSort, List.MergeSort.Internal.splitInTwo, List.merge]
theorem exSrt : srt [exA.one, exB.one] = [exB.one, exA.one] := by
  rw [srt2, if_neg]
  decide +kernel
theorem exKeepA : keepF exP [exA, exB] 10 = [false, true] := by
  have h : srt (List.map Ref.one [exA, exB]) = [exB.one, exA.one] := exSrt
  unfold keepF keepB
  simp only [List.map_cons, List.map_nil] at h ⊢
  rw [h]
  decide +kernel
theorem exKeepC : keepF exP [exC, exB] 10 = [true, true] := by
  have h : srt (List.map Ref.one [exC, exB]) = [exB.one, exC.one] := exSrt
  unfold keepF keepB
  simp only [List.map_cons, List.map_nil] at h ⊢
  rw [h]
  decide +kernel
abbrev exR (A : Option Addr) (cap : Nat) (l : List Ref) : Root := ⟨0, 10, A, cap, l, none, 0, 0, exP, none, 0, 0⟩
theorem exGoneA (A : Option Addr) (cap : Nat) : (exR A cap [exA, exB]).gone = [exA] := by unfold Root.gone Root.kept; simp only [exKeepA]; rfl
theorem exGoneC (A : Option Addr) (cap : Nat) : (exR A cap [exC, exB]).gone = [] := by unfold Root.gone Root.kept; simp only [exKeepC]; rfl
theorem exSet (A : Option Addr) (cap : Nat) : (exR A cap [exA, exB]).setErr exM 1 2000 = 0 ∧ (exR A cap [exA, exB]).setRow exM 1 2000 = [exC, exB] := by
  have h : [exA, exB].findIdx? (hit exM 1) = some 0 := by decide +kernel
  constructor
  · unfold Root.setErr; simp only [h]; rfl
  · unfold Root.setRow; simp only [h]; rfl
theorem ex_ok (l : List Ref) (h : l = [exA, exB] ∨ l = [exC, exB]) : ∀ x ∈ l, x.ok := by
  rcases h with rfl | rfl
  · intro x hx
    simp only [List.mem_cons, List.not_mem_nil, or_false] at hx
    rcases hx with rfl | rfl <;> exact ⟨by decide, by unfold okI; decide, by unfold okI; decide, by decide, by unfold okI; decide⟩
  · intro x hx
    simp only [List.mem_cons, List.not_mem_nil, or_false] at hx
    rcases hx with rfl | rfl <;> exact ⟨by decide, by unfold okI; decide, by unfold okI; decide, by decide, by unfold okI; decide⟩

set_option maxRecDepth 100000 in
set_option maxHeartbeats 2000000 in
theorem alive_any (w : World) : Calls Try.prog 10 #[] w fun e w' => e = .returned (.bool true) ∧ Below w.heap.size w w' := by
  have b1 : ∀ w, (Instr.build 25 #[(0, .int .i64 1)]).run Try.prog w = .ok (.agg #[.int .i64 1, .int .i64 0, .int .i64 0, .int .i64 0]) w := fun w => run_build w 25 _ _ (by kernel_rfl)
  have b2 : ∀ (w : World) (a : ByteArray) (b c : Int), (Instr.build 38 #[(0, .string a), (1, .int .i64 b), (2, .int .i64 c)]).run Try.prog w = .ok (.agg #[.string a, .int .i64 b, .int .i64 c, .string ⟨#[]⟩, .int .i64 0]) w := fun w a b c => run_build w 38 _ _ (by kernel_rfl)
  have b3 : ∀ (w : World) (A : Option Addr) (n c : Nat), (Instr.build 28 #[(1, .int .i64 10), (4, .agg #[.int .i64 1, .int .i64 0, .int .i64 0, .int .i64 0]), (2, .slice A n c)]).run Try.prog w = .ok (.agg #[.int .i64 0, .int .i64 10, .slice A n c, .slice none 0 0, .int .i64 1, .int .i64 0, .int .i64 0, .int .i64 0, .slice none 0 0]) w := fun w A n c => run_build w 28 _ _ (by kernel_rfl)
  go_enter Try.func10, Try.ntmps10
  go_wp2_with fail
  have ho : (w.alloc (.cells #[.string ⟨#[109]⟩, .int .i64 1, .int .i64 1, .string ⟨#[]⟩, .int .i64 0, .string ⟨#[109]⟩, .int .i64 2, .int .i64 2, .string ⟨#[]⟩, .int .i64 0] 38)).ownsRow w.heap.size 38 5 (.slice (some ⟨w.heap.size, 0, none⟩) 2 2) 2 ([exA, exB].flatMap Ref.cs) :=
    World.ownsRow_lit w #[.string ⟨#[109]⟩, .int .i64 1, .int .i64 1, .string ⟨#[]⟩, .int .i64 0, .string ⟨#[109]⟩, .int .i64 2, .int .i64 2, .string ⟨#[]⟩, .int .i64 0] 2 (Nat.le_refl _) (by decide) rfl
  replace ho := ho.alloc (.cells #[.int .i64 0, .int .i64 10, .slice (some ⟨w.heap.size, 0, none⟩) 2 2, .slice none 0 0, .int .i64 1, .int .i64 0, .int .i64 0, .int .i64 0, .slice none 0 0] 28)
  have bR := Blk.new (w.alloc (.cells #[.string ⟨#[109]⟩, .int .i64 1, .int .i64 1, .string ⟨#[]⟩, .int .i64 0, .string ⟨#[109]⟩, .int .i64 2, .int .i64 2, .string ⟨#[]⟩, .int .i64 0] 38)) 28 #[.int .i64 0, .int .i64 10, .slice (some ⟨w.heap.size, 0, none⟩) 2 2, .slice none 0 0, .int .i64 1, .int .i64 0, .int .i64 0, .int .i64 0, .slice none 0 0]
  rw [World.size_alloc] at bR
  have hb0 : Below w.heap.size w ((w.alloc (.cells #[.string ⟨#[109]⟩, .int .i64 1, .int .i64 1, .string ⟨#[]⟩, .int .i64 0, .string ⟨#[109]⟩, .int .i64 2, .int .i64 2, .string ⟨#[]⟩, .int .i64 0] 38)).alloc (.cells #[.int .i64 0, .int .i64 10, .slice (some ⟨w.heap.size, 0, none⟩) 2 2, .slice none 0 0, .int .i64 1, .int .i64 0, .int .i64 0, .int .i64 0, .slice none 0 0] 28)) := by (repeat' (first | with_reducible exact Below.refl _ _ | assumption | (with_reducible refine Below.drew ?_) | (with_reducible refine below_drewN ?_ _) | (with_reducible refine Below.alloc ?_ (by first | exact Nat.le_refl _ | (simp; done) | (simp; omega)) _) | (with_reducible refine Below.setCell ?_ (by first | exact Nat.le_refl _ | (simp; done) | (simp; omega)) _)))
  refine (gone_any (exR (some ⟨w.heap.size, 0, none⟩) 2 [exA, exB]) _ ⟨Reads.of_own ho, ex_ok _ (.inl rfl), (by decide : 2 ≤ 60)⟩).mono ?_
  rintro e w1 ⟨v1, rfl, ho1, hb1⟩
  rw [exGoneA] at ho1
  obtain ⟨g1, cap1, rfl, hg1, hg1'⟩ := ho1.form (by decide)
  have hsz := hb1.size
  have hc1 := ho1.cellAt 1 (by decide)
  have hR1 := bR.below hb1 (by simp)
  have hb2 := hb0.trans (hb1.mono hb0.size)
  have ho2 := (Reads.of_own ho).below hb1
  clear ho hb1 bR hb0
  have HOR := Lib.hid ho2; have HB2 := Lib.hid hb2; have HO1 := Lib.hid ho1; have HRR := Lib.hid hR1
  have r0 := hR1.cell 0; have r1 := hR1.cell 1; have r2 := hR1.cell 2; have r3 := hR1.cell 3; have r4 := hR1.cell 4; have r5 := hR1.cell 5; have r6 := hR1.cell 6; have r7 := hR1.cell 7; have r8 := hR1.cell 8
  simp only [List.getElem?_toArray, List.getElem?_cons_zero, List.getElem?_cons_succ] at r0 r1 r2 r3 r4 r5 r6 r7 r8
  clear ho2 hb2 ho1 hR1
  go_wp2_with fail
  refine (hset_any (exR (some ⟨w.heap.size, 0, none⟩) 2 [exA, exB]) exM 1 2000 _ ⟨HOR.out.more hsz, ex_ok _ (.inl rfl), (by decide : 2 ≤ 60)⟩).mono ?_
  rintro e w2 ⟨-, hok, hb3⟩
  obtain ⟨g2, cap2, he, ho3⟩ := hok (exSet _ _).1
  replace he : e = .returned (.tuple #[.agg #[.int .i64 0, .int .i64 10, .slice (some ⟨g2, 0, none⟩) 2 cap2, .slice none 0 0, .int .i64 1, .int .i64 0, .int .i64 0, .int .i64 0, .slice none 0 0], .int .i64 0]) := he
  subst he
  rw [(exSet _ _).2] at ho3
  replace ho3 : w2.ownsRow w1.heap.size 38 5 (.slice (some ⟨g2, 0, none⟩) 2 cap2) 2 ([exC, exB].flatMap Ref.cs) := ho3
  have hgl2 := (ho3.lt g2 rfl).2
  have hb4 := HB2.out.trans (hb3.mono HB2.out.size)
  have d1 : (w2.alloc (.cells #[.int .i64 0, .int .i64 10, .slice (some ⟨g2, 0, none⟩) 2 cap2, .slice none 0 0, .int .i64 1, .int .i64 0, .int .i64 0, .int .i64 0, .slice none 0 0] 28)).cell? ⟨g1, 1, none⟩ = some (.int .i64 1) := (World.cell?_alloc_lt w2 _ ⟨g1, 1, none⟩ (by have := hb3.size; simp only; omega)).trans ((hb3.cell (p := ⟨g1, 1, none⟩) hg1').trans hc1)
  have ho4 := ho3.alloc (.cells #[.int .i64 0, .int .i64 10, .slice (some ⟨g2, 0, none⟩) 2 cap2, .slice none 0 0, .int .i64 1, .int .i64 0, .int .i64 0, .int .i64 0, .slice none 0 0] 28)
  have bS := Blk.new w2 28 #[.int .i64 0, .int .i64 10, .slice (some ⟨g2, 0, none⟩) 2 cap2, .slice none 0 0, .int .i64 1, .int .i64 0, .int .i64 0, .int .i64 0, .slice none 0 0]
  have hb5 := hb4.alloc hb4.size (.cells #[.int .i64 0, .int .i64 10, .slice (some ⟨g2, 0, none⟩) 2 cap2, .slice none 0 0, .int .i64 1, .int .i64 0, .int .i64 0, .int .i64 0, .slice none 0 0] 28)
  have s0 := bS.cell 0; have s1 := bS.cell 1; have s2 := bS.cell 2; have s3 := bS.cell 3; have s4 := bS.cell 4; have s5 := bS.cell 5; have s6 := bS.cell 6; have s7 := bS.cell 7; have s8 := bS.cell 8
  simp only [List.getElem?_toArray, List.getElem?_cons_zero, List.getElem?_cons_succ] at s0 s1 s2 s3 s4 s5 s6 s7 s8
  have HB5 := Lib.hid hb5; have HO4 := Lib.hid ho4; have HS := Lib.hid bS
  clear r0 r1 r2 r3 r4 r5 r6 r7 r8 HOR HB2 HO1 HRR hok hb3 hb4 ho3 hc1 hb5 ho4 bS
  go_wp2_with fail
  refine (gone_any (exR (some ⟨g2, 0, none⟩) cap2 [exC, exB]) _ ⟨Reads.of_own HO4.out, ex_ok _ (.inr rfl), (by decide : 2 ≤ 60)⟩).mono ?_
  rintro e w5 ⟨v5, rfl, ho5, hb6⟩
  rw [exGoneC] at ho5
  obtain ⟨A5, cap5, rfl⟩ := own_slice ho5
  have bS5 := HS.out.below hb6 (by simp)
  have s2 := bS5.cell 2
  simp only [List.getElem?_toArray, List.getElem?_cons_zero, List.getElem?_cons_succ] at s2
  have k : ∀ j < 5, w5.cell? ⟨g2, j, none⟩ = ([exC, exB].flatMap Ref.cs)[j]? := fun j hj => (hb6.cell (p := ⟨g2, j, none⟩) (by simp; omega)).trans (HO4.out.cellAt j (by omega))
  have k0 := k 0 (by decide); have k1 := k 1 (by decide); have k2 := k 2 (by decide); have k3 := k 3 (by decide); have k4 := k 4 (by decide)
  simp only [List.flatMap_cons, Ref.cs, exC, exM, List.cons_append, List.getElem?_cons_zero, List.getElem?_cons_succ] at k0 k1 k2 k3 k4
  have hb7 := HB5.out.trans (hb6.mono HB5.out.size)
  have HB7 := Lib.hid hb7; have HS5 := Lib.hid bS5
  clear d1 s0 s1 s3 s4 s5 s6 s7 s8 HO4 HS k hb7 bS5 ho5 hb6 HB5
  go_wp2_with fail
  refine (held_any exC 1999 _).mono ?_; rintro e w6 ⟨he, hb8⟩
  replace he : e = .returned (.bool true) := he.trans (by rw [show decide ((1999 : Int) < exC.u) = true by decide])
  subst he
  have hz := hb8.size
  have hs2 : w2.heap.size < w5.heap.size := HS5.out.lt
  have m0 := (hb8.cell (p := ⟨g2, 0, none⟩) (by simp only; omega)).trans k0
  have m1 := (hb8.cell (p := ⟨g2, 1, none⟩) (by simp only; omega)).trans k1
  have m2 := (hb8.cell (p := ⟨g2, 2, none⟩) (by simp only; omega)).trans k2
  have m3 := (hb8.cell (p := ⟨g2, 3, none⟩) (by simp only; omega)).trans k3
  have m4 := (hb8.cell (p := ⟨g2, 4, none⟩) (by simp only; omega)).trans k4
  have n2 := (hb8.cell (p := ⟨w2.heap.size, 2, none⟩) (by simp only; omega)).trans s2
  have hb9 := HB7.out.trans (hb8.mono HB7.out.size)
  have HB9 := Lib.hid hb9
  clear k0 k1 k2 k3 k4 s2 HB7 HS5 hb8 hb9
  go_wp2_with fail
  refine (held_any exC 2000 _).mono ?_; rintro e w7 ⟨he, hb10⟩
  replace he : e = .returned (.bool false) := he.trans (by rw [show decide ((2000 : Int) < exC.u) = false by decide])
  subst he
  go_wp2_with fail
  go_ret
  exact ⟨rfl, HB9.out.trans (hb10.mono HB9.out.size)⟩

end Go.Proofs.Ytfjlhcapkfcpkaa
