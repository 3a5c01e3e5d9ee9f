/-
  PolicyRow: the walk.
-/
import Derived.Test.YtgelaffifjicoaaDoorRowP
import Derived.Test.YtgelaffifjicoaaDoorAlive49
namespace Go.Proofs.YtgelaffifjicoaaDoor
open Go.RowKit
set_option linter.unusedSimpArgs false
set_option linter.unusedVariables false

theorem infoRefR : (Tryd.prog.info? 35).map (fun i => (i.zero, i.size, i.bytes)) = some (some (.agg #[.string ⟨#[]⟩, .int .i64 0, .int .i64 0, .string ⟨#[]⟩, .int .i64 0]), 5, 56) := by kernel_rfl
theorem infoIntR : (Tryd.prog.info? 3).map (fun i => (i.zero, i.size, i.bytes)) = some (some (.int .i64 0), 1, 8) := by kernel_rfl
theorem rowL_ok (first : Int) (h : -1000000000 ≤ first ∧ first ≤ 1000000000) (d : Nat) (hd : d ≤ 40) : ∀ x ∈ rowL first d, x.ok := by
  intro x hx
  obtain ⟨i, hi, rfl⟩ := List.mem_map.1 hx
  have hi := List.mem_range.1 hi
  refine ⟨by unfold maxLen; show (1 : Nat) ≤ _; omega, ?_, ?_, by unfold maxLen; show (0 : Nat) ≤ _; omega, ?_⟩
  · show okI ((i : Int) + 1); unfold okI; omega
  · show okI (first * 1440 + (i : Int) * 1440 + (i : Int) * 37 % 1440); unfold okI; omega
  · show okI 0; unfold okI; omega
theorem keep_row (p : Pol) (first : Int) (h : -1000000000 ≤ first ∧ first ≤ 1000000000) (d : Nat) (hd : d ≤ 40) (now : Int) (A : Option Addr) (cap : Nat) (w : World) (hr : Reads w w.heap.size 5 A d ((rowL first d).flatMap Ref.cs)) :
    Calls Tryd.prog 12 #[p.v, .slice A d cap, .int .i64 now] w fun e w' => ∃ v, e = .returned v ∧ w'.ownsRow w.heap.size 4 1 v d ((keepF p (rowL first d) now).map Value.bool) ∧ Below w.heap.size w w' := by
  have hl := rowL_len first d
  have h := keep_any p (rowL first d) (rowL_ok first h d hd) now A cap w (by rw [hl]; exact hr) (by rw [hl]; omega)
  rw [hl] at h
  exact h
theorem rowOk_parts {n keep : Nat} {l : List Nat} (h : rowOk n keep l = true) : l.length ≤ keep ∧ (n = 0 ∨ 0 < l.length) ∧ ∀ i, i < l.length → (0 < i → i + 1 < l.length → l.getD i 0 = l.getD (i - 1) 0 + 7) ∧ (i + 1 = l.length → l.getD i 0 + 1 = n) := by
  unfold rowOk at h
  simp only [Bool.and_eq_true, Bool.or_eq_true, decide_eq_true_eq, List.all_eq_true, List.mem_range, Bool.not_eq_true', Bool.and_eq_false_iff, decide_eq_false_iff_not] at h
  obtain ⟨⟨h1, h2⟩, h3⟩ := h
  refine ⟨h1, h2, fun i hi => ⟨fun a b => ?_, fun a => ?_⟩⟩
  · rcases (h3 i hi).1 with (c | c) | c
    · exact absurd a c
    · exact absurd b c
    · exact Classical.not_not.1 c
  · rcases (h3 i hi).2 with c | c
    · exact absurd a c
    · exact Classical.not_not.1 c

set_option maxRecDepth 100000 in
set_option maxHeartbeats 2000000 in
theorem row_any (first many n : Int) (hf : okI first) (hm0 : 0 ≤ many ∧ many < 256) (hn0 : 0 ≤ n ∧ n < 256) (m : Int) (w : World) (hm : w.cell? ⟨0, 0, none⟩ = some (.int .i64 m)) :
    Calls Tryd.prog 8 #[.int .i64 first, .int .u8 many, .int .u8 n] w fun e w' => e = .returned (.bool true) ∧ Below w.heap.size w w' := by
  obtain ⟨i0, hi0, hz0, hz1, hz2⟩ := info_parts infoRefR
  obtain ⟨j0, hj0, hy0, hy1, hy2⟩ := info_parts infoIntR
  have hbr : ∀ (w : World) (a b : Int), (Instr.build 35 #[(0, .string ⟨#[109]⟩), (1, .int .i64 a), (2, .int .i64 b)]).run Tryd.prog w = .ok (.agg #[.string ⟨#[109]⟩, .int .i64 a, .int .i64 b, .string ⟨#[]⟩, .int .i64 0]) w := fun w a b => run_build w 35 _ _ (by kernel_rfl)
  have hb0 : ∀ (w : World) (a : Int), (Instr.build 23 #[(0, .int .i64 a)]).run Tryd.prog w = .ok (.agg #[.int .i64 a, .int .i64 0, .int .i64 0, .int .i64 0]) w := fun w a => run_build w 23 _ _ (by kernel_rfl)
  have hb1 : ∀ (w : World) (a : Int), (Instr.build 23 #[(1, .int .i64 a)]).run Tryd.prog w = .ok (.agg #[.int .i64 0, .int .i64 a, .int .i64 0, .int .i64 0]) w := fun w a => run_build w 23 _ _ (by kernel_rfl)
  obtain ⟨mk, rfl⟩ : ∃ j : Nat, many = (j : Int) := ⟨many.toNat, by omega⟩
  obtain ⟨nk, rfl⟩ : ∃ j : Nat, n = (j : Int) := ⟨n.toNat, by omega⟩
  obtain ⟨d, hd⟩ : ∃ d, d = mk % 40 := ⟨_, rfl⟩
  obtain ⟨keep, hkeep⟩ : ∃ d, d = 1 + nk % 12 := ⟨_, rfl⟩
  have hd1 : d < 40 := by omega
  have hk1 : 1 ≤ keep ∧ keep ≤ 12 := by omega
  have hmm : (mk : Int).tmod 40 = (d : Int) := by rw [Int.tmod_eq_emod_of_nonneg (by omega)]; omega
  have hnn : (nk : Int).tmod 12 = (keep : Int) - 1 := by rw [Int.tmod_eq_emod_of_nonneg (by omega)]; omega
  have hm8 : IntKind.i64.wrap (mk : Int) = (mk : Int) := by rw [IntKind.wrap_i64]; omega
  have hn8 : IntKind.i64.wrap (nk : Int) = (nk : Int) := by rw [IntKind.wrap_i64]; omega
  have hdI : (d : Int) < 40 := by omega
  have hkI : (keep : Int) ≤ 12 := by omega
  have hkI1 : (1 : Int) ≤ keep := by omega
  clear hd hkeep
  go_enter Tryd.func8, Tryd.ntmps8
  go_wp2_with fail
  refine (alive49_any m _ hm).mono ?_; rintro e w1 ⟨rfl, hb1'⟩
  have HB1 := Lib.hid hb1'
  clear hb1' hm
  by_cases hlo : first < -1000000000
  · go_wp2_with fail
    go_ret
    exact ⟨rfl, HB1.out⟩
  by_cases hhi : 1000000000 < first
  · go_wp2_with fail
    go_ret
    exact ⟨rfl, HB1.out⟩
  have hlo' : -1000000000 ≤ first := by omega
  have hhi' : first ≤ 1000000000 := by omega
  go_wp2_with fail
  rw [show (1 : Int) + ((keep : Int) - 1) = keep by omega]
  clear hmm hnn hm8 hn8
  go_loopw [9, 33] (fun v i wr => ∃ k : Nat, i = .int .i64 k ∧ k ≤ d ∧ wr.ownsRow w1.heap.size 35 5 v k ((rowL first k).flatMap Ref.cs) ∧ Below w1.heap.size w1 wr)
    (fun _ i _ => d - (intOf i).toNat)
  case atStart => exact ⟨0, rfl, Nat.zero_le _, World.ownsRow_nil _ _ _ _, Below.refl _ _⟩
  case round =>
    obtain ⟨k, rfl, hk, hown, hb⟩ := hrel
    obtain ⟨At, ct, rfl⟩ := own_slice hown
    have hbz := hb.size
    by_cases hlt : k < d
    · have hkI2 : (k : Int) < (d : Int) := by omega
      have hk40 : (k : Int) < 40 := by omega
      have hrs := rowL_succ first k
      have HRS := Lib.hid hrs
      have hown1 := hown.alloc (.cells #[.string ⟨#[109]⟩, .int .i64 ((k : Int) + 1), .int .i64 (first * 1440 + (k : Int) * 1440 + (k : Int) * 37 % 1440), .string ⟨#[]⟩, .int .i64 0] 35)
      have hb1 := hb.alloc hb.size (.cells #[.string ⟨#[109]⟩, .int .i64 ((k : Int) + 1), .int .i64 (first * 1440 + (k : Int) * 1440 + (k : Int) * 37 % 1440), .string ⟨#[]⟩, .int .i64 0] 35)
      clear hrs hown hb
      go_wp2_with (at_builtin; refine wpList_append_own_at _ rfl (.tmp 36) (.tmp 49) 25 rfl w1.heap.size 35 i0 _ 5 56 Tryd.underlying25 hi0 hz0 hz1 hz2 rfl (by omega) _ _ _ rfl hown1 ⟨wr.heap.size, 0, none⟩ 1 1 [.string ⟨#[109]⟩, .int .i64 ((k : Int) + 1), .int .i64 (first * 1440 + (k : Int) * 1440 + (k : Int) * 37 % 1440), .string ⟨#[]⟩, .int .i64 0] rfl rfl (news_cells wr [.string ⟨#[109]⟩, .int .i64 ((k : Int) + 1), .int .i64 (first * 1440 + (k : Int) * 1440 + (k : Int) * 37 % 1440), .string ⟨#[]⟩, .int .i64 0] _) (by simp [Value.oneCell']) (by unfold maxLen; omega) (by omega) (by simp; omega) ?_; intro v' w6 hown6 hgrow6 _ _)
      have hb6 := hb1.grown hgrow6 (by simp; omega) (fun jj hjj => (hown1.lt jj hjj).1)
      go_roundw
      case rel =>
        refine ⟨k + 1, by go_num, by omega, ?_, hb6⟩
        rw [HRS.out, List.flatMap_append]; simpa [rowRef, Ref.cs, rowM] using hown6
      case measure => simp [intOf]; omega
    · have hke : k = d := by omega
      subst hke
      have HO := Lib.hid (Reads.of_own hown); have HB2 := Lib.hid hb
      clear hown hb
      go_wp2_with fail
      refine (keep_row ⟨keep, 0, 0, 0⟩ first ⟨hlo', hhi'⟩ k (by omega) 4611686018427387904 At ct wr HO.out).mono ?_
      rintro e w3 ⟨va, rfl, hoa, hba⟩
      have HOA := Lib.hid hoa
      have HO3 := Lib.hid ((HO.out.below hba).more hba.size); have HB3 := Lib.hid (HB2.out.trans (hba.mono HB2.out.size))
      clear hoa hba HB2 HO
      go_wp2_with fail
      refine (keep_row ⟨0, keep, 0, 0⟩ first ⟨hlo', hhi'⟩ k (by omega) 4611686018427387904 At ct w3 HO3.out).mono ?_
      rintro e w4 ⟨vb, rfl, hob, hbb⟩
      obtain ⟨Aa, ca, rfl⟩ := own_slice HOA.out
      obtain ⟨Ab, cb, rfl⟩ := own_slice hob
      have HAa := Lib.hid (((Reads.of_own HOA.out).below hbb).more hbb.size); have HAb := Lib.hid (Reads.of_own hob)
      have HB4 := Lib.hid (HB3.out.trans (hbb.mono HB3.out.size))
      clear hob hbb HOA HO3 HB3
      go_wp2_with fail
      obtain ⟨s, hs⟩ : ∃ s : Nat, (s : Int) = (first + 5) % 7 := ⟨((first + 5) % 7).toNat, by omega⟩
      have hs7 : s < 7 := by omega
      have hra := fun i (hi : i < k) => row_days first k i keep ⟨by omega, by omega⟩ hi
      have hrb := fun i (hi : i < k) => row_weeks first s k i hs keep ⟨by omega, by omega⟩ hi
      have HRA := Lib.hid hra; have HRB := Lib.hid hrb; have HS := Lib.hid hs
      clear hra hrb hs
      have hll := rowL_len first k
      have HLL := Lib.hid hll
      clear hll
      obtain ⟨d, rfl⟩ : ∃ d, d = k := ⟨_, rfl⟩
      go_loopw [13, 72] (fun v i wr => ∃ k : Nat, i = .int .i64 k ∧ k ≤ d ∧ wr.ownsRow w4.heap.size 3 1 v (rowAt s d keep k).length ((rowAt s d keep k).map fun (j : Nat) => Value.int .i64 (j : Int)) ∧ Below w4.heap.size w4 wr)
        (fun _ i _ => d - (intOf i).toNat)
      case atStart => exact ⟨0, rfl, Nat.zero_le _, World.ownsRow_nil _ _ _ _, Below.refl _ _⟩
      case round =>
        obtain ⟨k, rfl, hk2, hown, hbv⟩ := hrel
        obtain ⟨Ac, cc, rfl⟩ := own_slice hown
        have hbz4 := hbv.size
        have hlk : (rowAt s d keep k).length ≤ k := by unfold rowAt; exact Nat.le_trans (List.length_filter_le _ _) (by simp)
        by_cases hlt2 : k < d
        · obtain ⟨b1, o1, v1, hA1, hv1, hbl1, c1⟩ := (HAa.out.below hbv).single hlt2
          obtain ⟨b2, o2, v2, hA2, hv2, hbl2, c2⟩ := (HAb.out.below hbv).single hlt2
          have hgl : (rowL first d)[k]? = some (rowRef first k) := by simp [rowL, hlt2]
          obtain rfl : v1 = .bool (decide ((d : Int) - keep ≤ (k : Int))) := by
            rw [List.getElem?_map, keepF, List.getElem?_map, hgl] at hv1
            simp only [Option.map_some, HRA.out k hlt2, Option.some.injEq] at hv1
            exact hv1.symm
          obtain rfl : v2 = .bool (wkB s d keep k) := by
            rw [List.getElem?_map, keepF, List.getElem?_map, hgl] at hv2
            simp only [Option.map_some, HRB.out k hlt2, Option.some.injEq] at hv2
            exact hv2.symm
          have hkI2 : (k : Int) < (d : Int) := by omega
          have hsucc := rowAt_succ s d keep k
          have HSUCC := Lib.hid hsucc
          subst hA1 hA2
          clear hv1 hv2 hgl hsucc
          by_cases hdk : (d : Int) - keep ≤ (k : Int)
          all_goals
            first | rw [decide_eq_true hdk] at c1 | rw [decide_eq_false hdk] at c1
            cases hw : wkB s d keep k
            · have HW := Lib.hid hw
              rw [hw] at c2
              clear hw
              go_wp2_with fail
              go_roundw
              case rel =>
                refine ⟨k + 1, by go_num, by omega, ?_, hbv⟩
                rw [HSUCC.out, HW.out]; simpa using hown
              case measure => simp [intOf]; omega
            · have HW := Lib.hid hw
              rw [hw] at c2
              clear hw
              have hown1 := hown.alloc (.cells #[.int .i64 (k : Int)] 3)
              have hb1 := hbv.alloc hbv.size (.cells #[.int .i64 (k : Int)] 3)
              clear hown
              go_wp2_with (at_builtin; refine wpList_append_own_at _ rfl (.tmp 89) (.tmp 91) 45 rfl w4.heap.size 3 j0 _ 1 8 Tryd.underlying45 hj0 hy0 hy1 hy2 rfl (by omega) _ _ _ rfl hown1 ⟨wr.heap.size, 0, none⟩ 1 1 [.int .i64 (k : Int)] rfl rfl (news_cells wr [.int .i64 (k : Int)] _) (by simp [Value.oneCell']) (by unfold maxLen; omega) (by omega) (by simp; omega) ?_; intro v' w6 hown6 hgrow6 _ _)
              have hb6 := hb1.grown hgrow6 (by simp; omega) (fun jj hjj => (hown1.lt jj hjj).1)
              go_roundw
              case rel =>
                refine ⟨k + 1, by go_num, by omega, ?_, hb6⟩
                rw [HSUCC.out, HW.out]; simpa using hown6
              case measure => simp [intOf]; omega
        · have hke2 : k = d := by omega
          subst hke2
          obtain ⟨hp1, hp2, hp3⟩ := rowOk_parts (rowOk_at s k keep hs7 hd1 hk1)
          obtain ⟨L, hL⟩ : ∃ L, L = rowAt s k keep k := ⟨_, rfl⟩
          rw [← hL] at hown hp1 hp2 hp3 hlk ⊢
          have hLm : ∀ j ∈ L, j < k := by rw [hL]; intro j hj; exact List.mem_range.1 (List.mem_filter.1 hj).1
          have HO := Lib.hid (Reads.of_own hown); have HLM := Lib.hid hLm; have HP3 := Lib.hid hp3; have HP2 := Lib.hid hp2
          have HBF := Lib.hid (HB1.out.trans (HB4.out.trans (hbv.mono HB4.out.size) |>.mono HB1.out.size))
          clear hL hLm hp3 hp2 hown hbv
          have hkI3 : (k : Int) < 40 := by omega
          have hL40 : (L.length : Int) ≤ 12 := by omega
          go_wp2_with fail
          go_loop [96] (fun i => ∃ j : Nat, i = .int .i64 j ∧ j ≤ L.length) (fun i => L.length - (intOf i).toNat)
          case atStart => exact ⟨0, rfl, Nat.zero_le _⟩
          case round =>
            obtain ⟨j, rfl, hj⟩ := hrel
            by_cases hjl : j < L.length
            · obtain ⟨b1, o1, v1, hA1, hv1, hbl1, c1⟩ := HO.out.single hjl
              obtain rfl : v1 = .int .i64 (L[j] : Int) := by
                rw [List.getElem?_map, List.getElem?_eq_getElem hjl] at hv1
                simpa using hv1.symm
              have hjI : (j : Int) < (L.length : Int) := by omega
              have hx := HLM.out _ (List.getElem_mem hjl)
              obtain ⟨q1, q2⟩ := HP3.out j hjl
              have hgx : L.getD j 0 = L[j] := by simp [hjl]
              rw [hgx] at q1 q2
              obtain ⟨X, hX⟩ : ∃ X : Nat, X = L[j] := ⟨_, rfl⟩
              rw [← hX] at c1 hx q1 q2
              by_cases hl1 : j + 1 = L.length
              · have hX1 := q2 hl1
                have e1 : ((j : Int) == (L.length : Int) - 1) = true := by rw [beq_iff_eq]; omega
                have e2 : ((X : Int) != (k : Int) - 1) = false := by rw [bne_eq_false_iff_eq]; omega
                have e3 : ¬ (j : Int) < (L.length : Int) - 1 := by omega
                have e3' : decide ((j : Int) < (L.length : Int) - 1) = false := decide_eq_false e3
                subst hA1
                clear q1 q2 hX hgx hv1 hl1
                rcases j with _ | j
                · rw [Nat.add_zero] at c1
                  have e1' : ((0 : Int) == (L.length : Int) - 1) = true := by simpa using e1
                  go_wp2_with fail
                  go_round
                  case rel => exact ⟨1, rfl, by omega⟩
                  case measure => simp [intOf]; omega
                · go_wp2_with fail
                  go_round
                  case rel => exact ⟨j + 1 + 1, by go_num, by omega⟩
                  case measure => simp [intOf]; omega
              · have e1 : ((j : Int) == (L.length : Int) - 1) = false := by rw [beq_eq_false_iff_ne]; omega
                have e3 : (j : Int) < (L.length : Int) - 1 := by omega
                subst hA1
                rcases j with _ | j
                · rw [Nat.add_zero] at c1
                  have e1' : ((0 : Int) == (L.length : Int) - 1) = false := by rw [beq_eq_false_iff_ne]; omega
                  clear q1 q2 hX hgx hv1
                  go_wp2_with fail
                  go_round
                  case rel => exact ⟨1, rfl, by omega⟩
                  case measure => simp [intOf]; omega
                · have hjl' : j < L.length := by omega
                  obtain ⟨b2, o2, v2, hA2, hv2, hbl2, c2⟩ := HO.out.single hjl'
                  obtain ⟨rfl, rfl⟩ : b1 = b2 ∧ o1 = o2 := by simpa using hA2
                  obtain rfl : v2 = .int .i64 (L[j] : Int) := by
                    rw [List.getElem?_map, List.getElem?_eq_getElem hjl'] at hv2
                    simpa using hv2.symm
                  have hq := q1 (by omega) (by omega)
                  have hgy : L.getD (j + 1 - 1) 0 = L[j] := by simp [hjl']
                  rw [hgy] at hq
                  have hy := HLM.out _ (List.getElem_mem hjl')
                  obtain ⟨Y, hY⟩ : ∃ X : Nat, X = L[j] := ⟨_, rfl⟩
                  rw [← hY] at c2 hq hy
                  clear q1 q2 hX hgx hv1 hv2 hA2 hgy hY
                  subst hq
                  go_wp2_with fail
                  go_round
                  case rel => exact ⟨j + 1 + 1, by go_num, by omega⟩
                  case measure => simp [intOf]; omega
            · have hje : j = L.length := by omega
              subst hje
              by_cases hk0 : k = 0
              · subst hk0
                go_wp2_with fail
                go_ret
                exact ⟨rfl, HBF.out⟩
              · have hpos : 0 < L.length := by rcases HP2.out with c | c; exact absurd c hk0; exact c
                have hposI : (0 : Int) < (L.length : Int) := by omega
                have hk0' : ((k : Int) == 0) = false := by rw [beq_eq_false_iff_ne]; omega
                go_wp2_with fail
                go_ret
                exact ⟨rfl, HBF.out⟩
end Go.Proofs.YtgelaffifjicoaaDoor
