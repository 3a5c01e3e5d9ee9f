/-
  WALKS: policy.Of.
-/
import Derived.Test.YtgelaffifjicoaaGreatDoorOfr
import Derived.Test.YtgelaffifjicoaaGreatDoorTxtQ
namespace Go.Proofs.YtgelaffifjicoaaGreatDoor
open Go.RowKit Go.Lib
set_option linter.unusedSimpArgs false
set_option linter.unusedVariables false

/-- strings.CutSuffix at one byte. -/
theorem cutAll_any (x : ByteArray) (c : UInt8) (hx : x.size ≤ 1000) (w : World) :
    Calls Tryz.prog 12 #[.string x, .string ⟨#[c]⟩] w fun e w' => (∃ (d : ByteArray) (ok : Bool), e = .returned (.tuple #[.string d, .bool ok]) ∧ d.size ≤ 1000 ∧ ((ok = true ∧ x.data.toList = d.data.toList ++ [c]) ∨ (ok = false ∧ ∀ l, x.data.toList ≠ l ++ [c]))) ∧ w' = w := by
  refine (Any.strings_CutSuffix cutL x ⟨#[c]⟩ w (by omega)).mono ?_
  rintro e w1 ⟨rfl, rfl⟩
  refine ⟨?_, rfl⟩
  by_cases h : Lib.hasSuffix x.data.toList [c] = true
  · obtain ⟨t, ht⟩ := List.isSuffixOf_iff_suffix.1 h
    refine ⟨⟨t.toArray⟩, true, ?_, ?_, .inl ⟨rfl, ht.symm⟩⟩
    · have h1 : Lib.trimSuffix x.data.toList [c] = t := by
        unfold Lib.trimSuffix
        rw [if_pos h, ← ht]
        simp
      have h2 : Lib.hasSuffix x.data.toList (⟨#[c]⟩ : ByteArray).data.toList = true := h
      have h3 : Lib.trimSuffix x.data.toList (⟨#[c]⟩ : ByteArray).data.toList = t := h1
      rw [h2, h3]
    · have := congrArg List.length ht
      have e : x.data.toList.length = x.size := Array.length_toList
      rw [List.length_append] at this
      have e2 : (⟨t.toArray⟩ : ByteArray).size = t.length := by rw [Lib.size_eq]
      rw [e2]; simp at this; omega
  · refine ⟨x, false, ?_, hx, .inr ⟨rfl, fun l hl => h (List.isSuffixOf_iff_suffix.2 ⟨l, hl.symm⟩)⟩⟩
    have h2 : Lib.hasSuffix x.data.toList (⟨#[c]⟩ : ByteArray).data.toList = false := by simpa using h
    have h3 : Lib.trimSuffix x.data.toList (⟨#[c]⟩ : ByteArray).data.toList = x.data.toList := by unfold Lib.trimSuffix; rw [if_neg (by rw [h2]; decide)]
    rw [h2, h3]
/-- The pieces. -/
def piecesL (s : ByteArray) : List (List UInt8) := splitK [32] 0 (count s.data.toList [32]) s.data.toList
def piecesB (s : ByteArray) : List ByteArray := Lib.splitB ⟨#[32]⟩ 0 (Lib.countB s ⟨#[32]⟩) s
theorem pieces_data (s : ByteArray) : (piecesB s).map (·.data.toList) = piecesL s := by unfold piecesB piecesL; rw [splitB_data]
theorem pieces_txt {s : ByteArray} {p : Pol} (hp : p.chk = 0) (hs : s.data.toList = txtL p) : piecesL s = parts p := split_txt hp hs
theorem txt_pieces {s : ByteArray} {p : Pol} (h : piecesL s = parts p) : s.data.toList = txtL p := txt_of_split h
theorem pieces_len (s : ByteArray) : (piecesB s).length = Lib.countB s ⟨#[32]⟩ + 1 := Lib.splitB_all _ (by decide) 0 _ s rfl
theorem joinC_le (c : UInt8) : ∀ (P : List (List UInt8)), ∀ x ∈ P, x.length ≤ (joinC c P).length
  | [], _, h => by cases h
  | [y], x, h => by rw [List.mem_singleton.1 h]; exact Nat.le_refl _
  | y :: z :: l, x, h => by
    rw [joinC_cons c y (z :: l) (by simp), List.length_append, List.length_cons]
    rcases List.mem_cons.1 h with rfl | h
    · omega
    · have := joinC_le c (z :: l) x h
      omega
theorem pieces_le (s : ByteArray) : ∀ x ∈ piecesB s, x.size ≤ s.size := by
  intro x hx
  have h1 : x.data.toList ∈ piecesL s := by rw [← pieces_data]; exact List.mem_map_of_mem (f := fun b : ByteArray => b.data.toList) hx
  have h2 := joinC_le 32 (piecesL s) _ h1
  rw [show joinC 32 (piecesL s) = s.data.toList from (splitK_spec 32 _ s.data.toList rfl).2.1] at h2
  rw [Lib.size_eq, Lib.size_eq]
  exact h2
theorem pieces_at {s : ByteArray} (h : (piecesB s).length = 4) {p : Pol} (hp : p.chk = 0) (hs : s.data.toList = txtL p) {k : Nat} (hk : k < 4) (hk' : k < (piecesB s).length) : ((piecesB s)[k]).data.toList = part p k := by
  have h1 := pieces_data s
  rw [pieces_txt hp hs] at h1
  have h2 : ((piecesB s).map (·.data.toList))[k]? = some ((piecesB s)[k]).data.toList := by rw [List.getElem?_map, List.getElem?_eq_getElem hk']; rfl
  rw [h1] at h2
  rcases (show k = 0 ∨ k = 1 ∨ k = 2 ∨ k = 3 by omega) with rfl | rfl | rfl | rfl <;> simp [parts] at h2 <;> exact h2.symm

/-- Up to number k the pieces are numbers with their signs. -/
def OfIs (s : ByteArray) (k : Nat) (f : Nat → Int) : Prop := ∀ (j : Nat) (hj : j < (piecesB s).length), j < k → okN (f j) ∧ ((piecesB s)[j]).data.toList = itoa (f j) ++ [sgn j]
theorem ofIs_bad {s : ByteArray} (h4 : (piecesB s).length = 4) {k : Nat} (hk : k < 4) (hk' : k < (piecesB s).length) (h : ∀ u, okN u → ((piecesB s)[k]).data.toList ≠ itoa u ++ [sgn k]) : OfSays s ⟨0, 0, 0, 0⟩ 3 :=
  .inr ⟨rfl, rfl, fun p hp hs => h (p.num k) (chk_num hp k) (pieces_at h4 hp hs hk hk')⟩
theorem ofIs_step {s : ByteArray} {k : Nat} {f : Nat → Int} (h : OfIs s k f) (hk : k < (piecesB s).length) {n : Int} (hn : okN n) (hx : ((piecesB s)[k]).data.toList = itoa n ++ [sgn k]) : OfIs s (k + 1) (fun j => if j = k then n else f j) := by
  intro j hj hjk
  show okN (if j = k then n else f j) ∧ _ = itoa (if j = k then n else f j) ++ _
  by_cases e : j = k
  · subst e; rw [if_pos rfl]; exact ⟨hn, hx⟩
  · rw [if_neg e]; exact h j hj (by omega)
theorem four_parts (f : Nat → Int) (L : List ByteArray) (h4 : L.length = 4) (h : ∀ (j : Nat) (hj : j < L.length), j < 4 → (L[j]).data.toList = itoa (f j) ++ [sgn j]) : L.map (·.data.toList) = parts ⟨f 0, f 1, f 2, f 3⟩ := by
  match L, h4 with
  | [a, b, c, d], _ =>
    have h0 := h 0 (by simp) (by decide); have h1 := h 1 (by simp) (by decide); have h2 := h 2 (by simp) (by decide); have h3 := h 3 (by simp) (by decide)
    simp only [List.getElem_cons_zero, List.getElem_cons_succ] at h0 h1 h2 h3
    simp [h0, h1, h2, h3, parts, part, Pol.num]
theorem ofIs_txt {s : ByteArray} (h4 : (piecesB s).length = 4) {f : Nat → Int} (h : OfIs s 4 f) : s.data.toList = txtL ⟨f 0, f 1, f 2, f 3⟩ := by
  apply txt_pieces
  rw [← pieces_data]
  exact four_parts f _ h4 (fun j hj hjk => (h j hj hjk).2)
theorem ofIs_end {s : ByteArray} (h4 : (piecesB s).length = 4) {f : Nat → Int} (h : OfIs s 4 f) (hc : ¬ polChk (f 0) (f 1) (f 2) (f 3) = 0) : OfSays s ⟨0, 0, 0, 0⟩ 3 :=
  .inr ⟨rfl, rfl, fun p hp hs => by
    have hn : ∀ j, j < 4 → f j = p.num j := fun j hj => by
      obtain ⟨a, b⟩ := h j (by omega) hj
      rw [pieces_at h4 hp hs hj (by omega)] at b
      unfold part at b
      exact (itoa_inj (chk_num hp j).1 a.1 (List.append_cancel_right b)).symm
    apply hc
    rw [hn 0 (by omega), hn 1 (by omega), hn 2 (by omega), hn 3 (by omega)]
    exact hp⟩
theorem itoa_neg_ne {v u : Int} (hv : ¬ okN v) (hu : okN u) : itoa v ≠ itoa u := by
  intro h
  by_cases hn : v < 0
  · have hm : (45 : UInt8) ∈ itoa u := by rw [← h]; unfold itoa; rw [if_pos hn]; exact List.mem_cons_self
    exact itoa_no hu.1 (.inl (by decide)) hm
  · exact hv (by rw [itoa_inj (by omega) hu.1 h]; exact hu)

set_option maxRecDepth 100000 in
set_option maxHeartbeats 4000000 in
theorem ofP_any (s : ByteArray) (hs : s.size ≤ 300) (w : World) (hz : LibZ w) :
    Calls Tryz.prog 5 #[.string s] w (OfPost s w) := by
  have b0 : ∀ w, (Instr.build 23 #[]).run Tryz.prog w = .ok (.agg #[.int .i64 0, .int .i64 0, .int .i64 0, .int .i64 0]) w := fun w => run_build w 23 _ _ (by kernel_rfl)
  have b1 : ∀ (w : World) (a b c d : Int), (Instr.build 23 #[(0, .int .i64 a), (1, .int .i64 b), (2, .int .i64 c), (3, .int .i64 d)]).run Tryz.prog w = .ok (.agg #[.int .i64 a, .int .i64 b, .int .i64 c, .int .i64 d]) w := fun w a b c d => run_build w 23 _ _ (by kernel_rfl)
  go_enter Tryz.func5, Tryz.ntmps5
  have hzb := hz.below ((Below.refl _ w).alloc (Nat.le_refl _) (.cells #[.int .i64 0, .int .i64 0, .int .i64 0, .int .i64 0] 23)) (Nat.le_refl _)
  obtain ⟨m, hm1⟩ := hzb.mx
  have HZ := Lib.hid hzb
  clear hz hzb
  go_wp2_with fail
  have hsp := Any.strings_Split splitL infoStr s ⟨#[32]⟩ m (w.alloc (.cells #[.int .i64 0, .int .i64 0, .int .i64 0, .int .i64 0] 23)) (by omega) hm1 (by decide)
  have hpl := pieces_len s
  rw [← hpl] at hsp
  have HPL := Lib.hid hpl
  refine hsp.mono ?_; rintro e w1 ⟨rfl, hw1⟩
  replace hw1 : w1 = (w.alloc (.cells #[.int .i64 0, .int .i64 0, .int .i64 0, .int .i64 0] 23)).alloc (.cells ((piecesB s).map Value.string).toArray 9) := hw1
  rw [World.size_alloc]
  have bP : Blk w1 w.heap.size 23 #[.int .i64 0, .int .i64 0, .int .i64 0, .int .i64 0] := by rw [hw1]; exact (Blk.new w _ _).alloc _
  have bS : Blk w1 (w.heap.size + 1) 9 ((piecesB s).map Value.string).toArray := by
    have h0 := Blk.new (w.alloc (.cells #[.int .i64 0, .int .i64 0, .int .i64 0, .int .i64 0] 23)) 9 ((piecesB s).map Value.string).toArray
    rw [World.size_alloc] at h0
    rw [hw1]; exact h0
  have hb1 : Below w.heap.size w w1 := by rw [hw1]; exact ((Below.refl _ w).alloc (Nat.le_refl _) _).alloc (by simp) _
  have hz1 : LibZ w1 := by rw [hw1]; exact HZ.out.below ((Below.refl _ _).alloc (Nat.le_refl _) _) (Nat.le_refl _)
  have hz2 : w1.heap.size = w.heap.size + 2 := by rw [hw1]; simp
  have hzs : w.heap.size + 1 < w1.heap.size := by omega
  have HP := Lib.hid bP; have HS := Lib.hid bS; have HB := Lib.hid hb1; have HZ1 := Lib.hid hz1
  have hlen : (piecesB s).length ≤ s.size + 1 := by have h1 := Lib.countB_le ⟨#[32]⟩ (by decide) s.size s (Nat.le_refl _); omega
  clear hw1 hsp hm1 bP bS hb1 hz1 hz2 hpl HPL HZ
  by_cases h4 : (piecesB s).length = 4
  case neg =>
    have h4b : (((piecesB s).length : Int) != 4) = true := by rw [bne_iff_ne]; omega
    have HOF := Lib.hid (show OfSays s ⟨0, 0, 0, 0⟩ 3 from .inr ⟨rfl, rfl, fun p hp hs => by
      have h1 := congrArg List.length (pieces_data s)
      rw [pieces_txt hp hs, List.length_map] at h1
      exact h4 h1⟩)
    clear h4
    have p0 := HP.out.cell 0; have p1 := HP.out.cell 1; have p2 := HP.out.cell 2; have p3 := HP.out.cell 3
    have g0 := HP.out.frozen 0; have g1 := HP.out.frozen 1; have g2 := HP.out.frozen 2; have g3 := HP.out.frozen 3
    simp only [List.getElem?_toArray, List.getElem?_cons_zero, List.getElem?_cons_succ] at p0 p1 p2 p3
    go_wp2_with fail
    change bodyPost _ _ _ _ _ (stores w1 (fill w.heap.size 0 [.int .i64 0, .int .i64 0, .int .i64 0, .int .i64 0]))
    exact bodyPost_ret (of49_results _ _ _ _ _ _ _ _ rfl rfl (over4 HP.out _ _ _ _)) rfl ⟨⟨0, 0, 0, 0⟩, 3, rfl, HOF.out, HB.out.trans (stores_below _ _ (fun p hp => by have := fill_block _ _ _ _ hp; have := HB.out.size; omega))⟩
  have H4 := Lib.hid h4
  rw [h4]
  clear h4 hlen
  go_wp2_with fail
  go_loopw [21] (fun i wr => ∃ (k : Nat) (f : Nat → Int), i = .int .i64 k ∧ k ≤ 4 ∧ OfIs s k f ∧ Blk wr w1.heap.size 38 #[.int .i64 (f 0), .int .i64 (f 1), .int .i64 (f 2), .int .i64 (f 3)] ∧ Below w1.heap.size w1 wr)
    (fun i _ => 4 - (intOf i).toNat)
  case atStart => exact ⟨0, fun _ => 0, rfl, by omega, fun j _ h => absurd h (Nat.not_lt_zero _), Blk.new _ _ _, (Below.refl _ _).alloc (Nat.le_refl _) _⟩
  case round =>
    obtain ⟨k, f, rfl, hk, hat, hN, hb⟩ := hrel
    have HAT := Lib.hid hat; have HN := Lib.hid hN; have HBw := Lib.hid hb
    have hnl := hN.lt
    clear hat hN hb
    rcases (show k = 0 ∨ k = 1 ∨ k = 2 ∨ k = 3 ∨ k = 4 from by omega) with rfl | rfl | rfl | rfl | rfl
    case inl =>
      have hsl : ∀ W : World, (Instr.slice 9 (.string ⟨#[100, 119, 109, 121]⟩) (some (.int .i64 0)) (some (.int .i64 1)) none).run Tryz.prog W = .ok (.string ⟨#[100]⟩) W := fun W => by kernel_rfl
      have hk4 : 0 < (piecesB s).length := by rw [H4.out]; decide
      obtain ⟨x, hx⟩ : ∃ x, x = (piecesB s)[0]'hk4 := ⟨_, rfl⟩
      have hxs : x.size ≤ 1000 := by
        have := pieces_le s x (by rw [hx]; exact List.getElem_mem _)
        omega
      have bS3 := HS.out.below HBw.out hzs
      have s0 := bS3.cell 0
      rw [List.getElem?_toArray, List.getElem?_map, List.getElem?_eq_getElem hk4, ← hx, Option.map_some] at s0
      have HX := Lib.hid hx
      have HZr := Lib.hid (HZ1.out.below HBw.out (Nat.le_refl _))
      clear hx bS3
      go_wp2_with fail
      refine (cutAll_any x 100 hxs _).mono ?_; rintro e w4 ⟨⟨d, ok, rfl, hds, hdx⟩, rfl⟩
      have HDX := Lib.hid hdx
      clear hdx s0
      go_wp2_with fail
      refine (intAll_any d hds _ HZr.out).mono ?_; rintro e w5 ⟨⟨v, b, rfl, hv, hvo⟩, hb5⟩
      have HB5 := Lib.hid (HBw.out.trans (hb5.mono HBw.out.size)); have HN5 := Lib.hid (HN.out.below hb5 hnl)
      have HP5 := Lib.hid (HP.out.below HB5.out (by omega)); have HBB5 := Lib.hid (HB.out.trans (HB5.out.mono (by omega)))
      have HV := Lib.hid hv
      obtain ⟨hv1, hv2⟩ := hvo
      clear hb5 hsl hv
      by_cases hgood : ok = true ∧ b = true ∧ 0 ≤ v ∧ v ≤ 1000
      · obtain ⟨rfl, rfl, hv0, hv9⟩ := hgood
        have hxx : ((piecesB s)[0]'hk4).data.toList = itoa v ++ [sgn 0] := by
          rcases HDX.out with ⟨_, h1⟩ | ⟨h1, _⟩
          · rcases HV.out with ⟨_, h2⟩ | ⟨h2, _⟩
            · rw [← HX.out, h1, h2]; rfl
            · cases h2
          · cases h1
        have HST := Lib.hid (ofIs_step HAT.out hk4 ⟨hv0, hv9⟩ hxx)
        have hn3 : w5.cell? ⟨w1.heap.size, 0, none⟩ = some (.int .i64 (f 0)) := HN5.out.cell 0
        have hg3 := HN5.out.frozen 0
        have HNN := Lib.hid (HN5.out.set_ 0 (.int .i64 v))
        clear hxx
        go_wp2_with fail
        go_roundw
        case rel =>
          refine ⟨1, fun j => if j = 0 then v else f j, by go_num, by omega, HST.out, ?_, HB5.out.setCell (p := ⟨w1.heap.size, 0, none⟩) (Nat.le_refl _) _⟩
          have h := HNN.out
          simpa using h
        case measure => simp [intOf]
      · have hbad : OfSays s ⟨0, 0, 0, 0⟩ 3 := ofIs_bad H4.out (by decide) hk4 (fun u hu hh => by
          rw [← HX.out] at hh
          rcases HDX.out with ⟨hk1, h1⟩ | ⟨_, h1⟩
          · have hd : d.data.toList = itoa u := by
              rw [h1] at hh
              exact List.append_cancel_right hh
            rcases HV.out with ⟨hk2, h2⟩ | ⟨_, h2⟩
            · by_cases hvn : okN v
              · exact hgood ⟨hk1, hk2, hvn.1, hvn.2⟩
              · exact itoa_neg_ne hvn hu (h2.symm.trans hd)
            · exact h2 u hu hd
          · exact h1 _ hh)
        have HOF := Lib.hid hbad
        have hg : ok = false ∨ (ok = true ∧ b = false) ∨ (ok = true ∧ b = true ∧ v < 0) ∨ (ok = true ∧ b = true ∧ 0 ≤ v ∧ 1000 < v) := by
          cases ok <;> cases b <;> simp at hgood ⊢
          omega
        clear hbad hgood
        rcases hg with rfl | ⟨rfl, rfl⟩ | ⟨rfl, rfl, hvn⟩ | ⟨rfl, rfl, hvp, hvn⟩
        all_goals
          have p0 := HP5.out.cell 0; have p1 := HP5.out.cell 1; have p2 := HP5.out.cell 2; have p3 := HP5.out.cell 3
          have g0 := HP5.out.frozen 0; have g1 := HP5.out.frozen 1; have g2 := HP5.out.frozen 2; have g3 := HP5.out.frozen 3
          simp only [List.getElem?_toArray, List.getElem?_cons_zero, List.getElem?_cons_succ] at p0 p1 p2 p3
          go_wp2_with fail
          change bodyPost _ _ _ _ _ (stores w5 (fill w.heap.size 0 [.int .i64 0, .int .i64 0, .int .i64 0, .int .i64 0]))
          exact bodyPost_ret (of49_results _ _ _ _ _ _ _ _ rfl rfl (over4 HP5.out _ _ _ _)) rfl ⟨⟨0, 0, 0, 0⟩, 3, rfl, HOF.out, HBB5.out.trans (stores_below _ _ (fun p hp => by have := fill_block _ _ _ _ hp; have := HBB5.out.size; omega))⟩
    case inr.inl =>
      have hsl : ∀ W : World, (Instr.slice 9 (.string ⟨#[100, 119, 109, 121]⟩) (some (.int .i64 1)) (some (.int .i64 2)) none).run Tryz.prog W = .ok (.string ⟨#[119]⟩) W := fun W => by kernel_rfl
      have hk4 : 1 < (piecesB s).length := by rw [H4.out]; decide
      obtain ⟨x, hx⟩ : ∃ x, x = (piecesB s)[1]'hk4 := ⟨_, rfl⟩
      have hxs : x.size ≤ 1000 := by
        have := pieces_le s x (by rw [hx]; exact List.getElem_mem _)
        omega
      have bS3 := HS.out.below HBw.out hzs
      have s0 := bS3.cell 1
      rw [List.getElem?_toArray, List.getElem?_map, List.getElem?_eq_getElem hk4, ← hx, Option.map_some] at s0
      have HX := Lib.hid hx
      have HZr := Lib.hid (HZ1.out.below HBw.out (Nat.le_refl _))
      clear hx bS3
      go_wp2_with fail
      refine (cutAll_any x 119 hxs _).mono ?_; rintro e w4 ⟨⟨d, ok, rfl, hds, hdx⟩, rfl⟩
      have HDX := Lib.hid hdx
      clear hdx s0
      go_wp2_with fail
      refine (intAll_any d hds _ HZr.out).mono ?_; rintro e w5 ⟨⟨v, b, rfl, hv, hvo⟩, hb5⟩
      have HB5 := Lib.hid (HBw.out.trans (hb5.mono HBw.out.size)); have HN5 := Lib.hid (HN.out.below hb5 hnl)
      have HP5 := Lib.hid (HP.out.below HB5.out (by omega)); have HBB5 := Lib.hid (HB.out.trans (HB5.out.mono (by omega)))
      have HV := Lib.hid hv
      obtain ⟨hv1, hv2⟩ := hvo
      clear hb5 hsl hv
      by_cases hgood : ok = true ∧ b = true ∧ 0 ≤ v ∧ v ≤ 1000
      · obtain ⟨rfl, rfl, hv0, hv9⟩ := hgood
        have hxx : ((piecesB s)[1]'hk4).data.toList = itoa v ++ [sgn 1] := by
          rcases HDX.out with ⟨_, h1⟩ | ⟨h1, _⟩
          · rcases HV.out with ⟨_, h2⟩ | ⟨h2, _⟩
            · rw [← HX.out, h1, h2]; rfl
            · cases h2
          · cases h1
        have HST := Lib.hid (ofIs_step HAT.out hk4 ⟨hv0, hv9⟩ hxx)
        have hn3 : w5.cell? ⟨w1.heap.size, 1, none⟩ = some (.int .i64 (f 1)) := HN5.out.cell 1
        have hg3 := HN5.out.frozen 1
        have HNN := Lib.hid (HN5.out.set_ 1 (.int .i64 v))
        clear hxx
        go_wp2_with fail
        go_roundw
        case rel =>
          refine ⟨2, fun j => if j = 1 then v else f j, by go_num, by omega, HST.out, ?_, HB5.out.setCell (p := ⟨w1.heap.size, 1, none⟩) (Nat.le_refl _) _⟩
          have h := HNN.out
          simpa using h
        case measure => simp [intOf]
      · have hbad : OfSays s ⟨0, 0, 0, 0⟩ 3 := ofIs_bad H4.out (by decide) hk4 (fun u hu hh => by
          rw [← HX.out] at hh
          rcases HDX.out with ⟨hk1, h1⟩ | ⟨_, h1⟩
          · have hd : d.data.toList = itoa u := by
              rw [h1] at hh
              exact List.append_cancel_right hh
            rcases HV.out with ⟨hk2, h2⟩ | ⟨_, h2⟩
            · by_cases hvn : okN v
              · exact hgood ⟨hk1, hk2, hvn.1, hvn.2⟩
              · exact itoa_neg_ne hvn hu (h2.symm.trans hd)
            · exact h2 u hu hd
          · exact h1 _ hh)
        have HOF := Lib.hid hbad
        have hg : ok = false ∨ (ok = true ∧ b = false) ∨ (ok = true ∧ b = true ∧ v < 0) ∨ (ok = true ∧ b = true ∧ 0 ≤ v ∧ 1000 < v) := by
          cases ok <;> cases b <;> simp at hgood ⊢
          omega
        clear hbad hgood
        rcases hg with rfl | ⟨rfl, rfl⟩ | ⟨rfl, rfl, hvn⟩ | ⟨rfl, rfl, hvp, hvn⟩
        all_goals
          have p0 := HP5.out.cell 0; have p1 := HP5.out.cell 1; have p2 := HP5.out.cell 2; have p3 := HP5.out.cell 3
          have g0 := HP5.out.frozen 0; have g1 := HP5.out.frozen 1; have g2 := HP5.out.frozen 2; have g3 := HP5.out.frozen 3
          simp only [List.getElem?_toArray, List.getElem?_cons_zero, List.getElem?_cons_succ] at p0 p1 p2 p3
          go_wp2_with fail
          change bodyPost _ _ _ _ _ (stores w5 (fill w.heap.size 0 [.int .i64 0, .int .i64 0, .int .i64 0, .int .i64 0]))
          exact bodyPost_ret (of49_results _ _ _ _ _ _ _ _ rfl rfl (over4 HP5.out _ _ _ _)) rfl ⟨⟨0, 0, 0, 0⟩, 3, rfl, HOF.out, HBB5.out.trans (stores_below _ _ (fun p hp => by have := fill_block _ _ _ _ hp; have := HBB5.out.size; omega))⟩
    case inr.inr.inl =>
      have hsl : ∀ W : World, (Instr.slice 9 (.string ⟨#[100, 119, 109, 121]⟩) (some (.int .i64 2)) (some (.int .i64 3)) none).run Tryz.prog W = .ok (.string ⟨#[109]⟩) W := fun W => by kernel_rfl
      have hk4 : 2 < (piecesB s).length := by rw [H4.out]; decide
      obtain ⟨x, hx⟩ : ∃ x, x = (piecesB s)[2]'hk4 := ⟨_, rfl⟩
      have hxs : x.size ≤ 1000 := by
        have := pieces_le s x (by rw [hx]; exact List.getElem_mem _)
        omega
      have bS3 := HS.out.below HBw.out hzs
      have s0 := bS3.cell 2
      rw [List.getElem?_toArray, List.getElem?_map, List.getElem?_eq_getElem hk4, ← hx, Option.map_some] at s0
      have HX := Lib.hid hx
      have HZr := Lib.hid (HZ1.out.below HBw.out (Nat.le_refl _))
      clear hx bS3
      go_wp2_with fail
      refine (cutAll_any x 109 hxs _).mono ?_; rintro e w4 ⟨⟨d, ok, rfl, hds, hdx⟩, rfl⟩
      have HDX := Lib.hid hdx
      clear hdx s0
      go_wp2_with fail
      refine (intAll_any d hds _ HZr.out).mono ?_; rintro e w5 ⟨⟨v, b, rfl, hv, hvo⟩, hb5⟩
      have HB5 := Lib.hid (HBw.out.trans (hb5.mono HBw.out.size)); have HN5 := Lib.hid (HN.out.below hb5 hnl)
      have HP5 := Lib.hid (HP.out.below HB5.out (by omega)); have HBB5 := Lib.hid (HB.out.trans (HB5.out.mono (by omega)))
      have HV := Lib.hid hv
      obtain ⟨hv1, hv2⟩ := hvo
      clear hb5 hsl hv
      by_cases hgood : ok = true ∧ b = true ∧ 0 ≤ v ∧ v ≤ 1000
      · obtain ⟨rfl, rfl, hv0, hv9⟩ := hgood
        have hxx : ((piecesB s)[2]'hk4).data.toList = itoa v ++ [sgn 2] := by
          rcases HDX.out with ⟨_, h1⟩ | ⟨h1, _⟩
          · rcases HV.out with ⟨_, h2⟩ | ⟨h2, _⟩
            · rw [← HX.out, h1, h2]; rfl
            · cases h2
          · cases h1
        have HST := Lib.hid (ofIs_step HAT.out hk4 ⟨hv0, hv9⟩ hxx)
        have hn3 : w5.cell? ⟨w1.heap.size, 2, none⟩ = some (.int .i64 (f 2)) := HN5.out.cell 2
        have hg3 := HN5.out.frozen 2
        have HNN := Lib.hid (HN5.out.set_ 2 (.int .i64 v))
        clear hxx
        go_wp2_with fail
        go_roundw
        case rel =>
          refine ⟨3, fun j => if j = 2 then v else f j, by go_num, by omega, HST.out, ?_, HB5.out.setCell (p := ⟨w1.heap.size, 2, none⟩) (Nat.le_refl _) _⟩
          have h := HNN.out
          simpa using h
        case measure => simp [intOf]
      · have hbad : OfSays s ⟨0, 0, 0, 0⟩ 3 := ofIs_bad H4.out (by decide) hk4 (fun u hu hh => by
          rw [← HX.out] at hh
          rcases HDX.out with ⟨hk1, h1⟩ | ⟨_, h1⟩
          · have hd : d.data.toList = itoa u := by
              rw [h1] at hh
              exact List.append_cancel_right hh
            rcases HV.out with ⟨hk2, h2⟩ | ⟨_, h2⟩
            · by_cases hvn : okN v
              · exact hgood ⟨hk1, hk2, hvn.1, hvn.2⟩
              · exact itoa_neg_ne hvn hu (h2.symm.trans hd)
            · exact h2 u hu hd
          · exact h1 _ hh)
        have HOF := Lib.hid hbad
        have hg : ok = false ∨ (ok = true ∧ b = false) ∨ (ok = true ∧ b = true ∧ v < 0) ∨ (ok = true ∧ b = true ∧ 0 ≤ v ∧ 1000 < v) := by
          cases ok <;> cases b <;> simp at hgood ⊢
          omega
        clear hbad hgood
        rcases hg with rfl | ⟨rfl, rfl⟩ | ⟨rfl, rfl, hvn⟩ | ⟨rfl, rfl, hvp, hvn⟩
        all_goals
          have p0 := HP5.out.cell 0; have p1 := HP5.out.cell 1; have p2 := HP5.out.cell 2; have p3 := HP5.out.cell 3
          have g0 := HP5.out.frozen 0; have g1 := HP5.out.frozen 1; have g2 := HP5.out.frozen 2; have g3 := HP5.out.frozen 3
          simp only [List.getElem?_toArray, List.getElem?_cons_zero, List.getElem?_cons_succ] at p0 p1 p2 p3
          go_wp2_with fail
          change bodyPost _ _ _ _ _ (stores w5 (fill w.heap.size 0 [.int .i64 0, .int .i64 0, .int .i64 0, .int .i64 0]))
          exact bodyPost_ret (of49_results _ _ _ _ _ _ _ _ rfl rfl (over4 HP5.out _ _ _ _)) rfl ⟨⟨0, 0, 0, 0⟩, 3, rfl, HOF.out, HBB5.out.trans (stores_below _ _ (fun p hp => by have := fill_block _ _ _ _ hp; have := HBB5.out.size; omega))⟩
    case inr.inr.inr.inl =>
      have hsl : ∀ W : World, (Instr.slice 9 (.string ⟨#[100, 119, 109, 121]⟩) (some (.int .i64 3)) (some (.int .i64 4)) none).run Tryz.prog W = .ok (.string ⟨#[121]⟩) W := fun W => by kernel_rfl
      have hk4 : 3 < (piecesB s).length := by rw [H4.out]; decide
      obtain ⟨x, hx⟩ : ∃ x, x = (piecesB s)[3]'hk4 := ⟨_, rfl⟩
      have hxs : x.size ≤ 1000 := by
        have := pieces_le s x (by rw [hx]; exact List.getElem_mem _)
        omega
      have bS3 := HS.out.below HBw.out hzs
      have s0 := bS3.cell 3
      rw [List.getElem?_toArray, List.getElem?_map, List.getElem?_eq_getElem hk4, ← hx, Option.map_some] at s0
      have HX := Lib.hid hx
      have HZr := Lib.hid (HZ1.out.below HBw.out (Nat.le_refl _))
      clear hx bS3
      go_wp2_with fail
      refine (cutAll_any x 121 hxs _).mono ?_; rintro e w4 ⟨⟨d, ok, rfl, hds, hdx⟩, rfl⟩
      have HDX := Lib.hid hdx
      clear hdx s0
      go_wp2_with fail
      refine (intAll_any d hds _ HZr.out).mono ?_; rintro e w5 ⟨⟨v, b, rfl, hv, hvo⟩, hb5⟩
      have HB5 := Lib.hid (HBw.out.trans (hb5.mono HBw.out.size)); have HN5 := Lib.hid (HN.out.below hb5 hnl)
      have HP5 := Lib.hid (HP.out.below HB5.out (by omega)); have HBB5 := Lib.hid (HB.out.trans (HB5.out.mono (by omega)))
      have HV := Lib.hid hv
      obtain ⟨hv1, hv2⟩ := hvo
      clear hb5 hsl hv
      by_cases hgood : ok = true ∧ b = true ∧ 0 ≤ v ∧ v ≤ 1000
      · obtain ⟨rfl, rfl, hv0, hv9⟩ := hgood
        have hxx : ((piecesB s)[3]'hk4).data.toList = itoa v ++ [sgn 3] := by
          rcases HDX.out with ⟨_, h1⟩ | ⟨h1, _⟩
          · rcases HV.out with ⟨_, h2⟩ | ⟨h2, _⟩
            · rw [← HX.out, h1, h2]; rfl
            · cases h2
          · cases h1
        have HST := Lib.hid (ofIs_step HAT.out hk4 ⟨hv0, hv9⟩ hxx)
        have hn3 : w5.cell? ⟨w1.heap.size, 3, none⟩ = some (.int .i64 (f 3)) := HN5.out.cell 3
        have hg3 := HN5.out.frozen 3
        have HNN := Lib.hid (HN5.out.set_ 3 (.int .i64 v))
        clear hxx
        go_wp2_with fail
        go_roundw
        case rel =>
          refine ⟨4, fun j => if j = 3 then v else f j, by go_num, by omega, HST.out, ?_, HB5.out.setCell (p := ⟨w1.heap.size, 3, none⟩) (Nat.le_refl _) _⟩
          have h := HNN.out
          simpa using h
        case measure => simp [intOf]
      · have hbad : OfSays s ⟨0, 0, 0, 0⟩ 3 := ofIs_bad H4.out (by decide) hk4 (fun u hu hh => by
          rw [← HX.out] at hh
          rcases HDX.out with ⟨hk1, h1⟩ | ⟨_, h1⟩
          · have hd : d.data.toList = itoa u := by
              rw [h1] at hh
              exact List.append_cancel_right hh
            rcases HV.out with ⟨hk2, h2⟩ | ⟨_, h2⟩
            · by_cases hvn : okN v
              · exact hgood ⟨hk1, hk2, hvn.1, hvn.2⟩
              · exact itoa_neg_ne hvn hu (h2.symm.trans hd)
            · exact h2 u hu hd
          · exact h1 _ hh)
        have HOF := Lib.hid hbad
        have hg : ok = false ∨ (ok = true ∧ b = false) ∨ (ok = true ∧ b = true ∧ v < 0) ∨ (ok = true ∧ b = true ∧ 0 ≤ v ∧ 1000 < v) := by
          cases ok <;> cases b <;> simp at hgood ⊢
          omega
        clear hbad hgood
        rcases hg with rfl | ⟨rfl, rfl⟩ | ⟨rfl, rfl, hvn⟩ | ⟨rfl, rfl, hvp, hvn⟩
        all_goals
          have p0 := HP5.out.cell 0; have p1 := HP5.out.cell 1; have p2 := HP5.out.cell 2; have p3 := HP5.out.cell 3
          have g0 := HP5.out.frozen 0; have g1 := HP5.out.frozen 1; have g2 := HP5.out.frozen 2; have g3 := HP5.out.frozen 3
          simp only [List.getElem?_toArray, List.getElem?_cons_zero, List.getElem?_cons_succ] at p0 p1 p2 p3
          go_wp2_with fail
          change bodyPost _ _ _ _ _ (stores w5 (fill w.heap.size 0 [.int .i64 0, .int .i64 0, .int .i64 0, .int .i64 0]))
          exact bodyPost_ret (of49_results _ _ _ _ _ _ _ _ rfl rfl (over4 HP5.out _ _ _ _)) rfl ⟨⟨0, 0, 0, 0⟩, 3, rfl, HOF.out, HBB5.out.trans (stores_below _ _ (fun p hp => by have := fill_block _ _ _ _ hp; have := HBB5.out.size; omega))⟩
    case inr.inr.inr.inr =>
      have a0 := HN.out.cell 0; have a1 := HN.out.cell 1; have a2 := HN.out.cell 2; have a3 := HN.out.cell 3
      simp only [List.getElem?_toArray, List.getElem?_cons_zero, List.getElem?_cons_succ] at a0 a1 a2 a3
      obtain ⟨q, hq⟩ : ∃ q : Pol, q = ⟨f 0, f 1, f 2, f 3⟩ := ⟨_, rfl⟩
      have htx := ofIs_txt H4.out HAT.out
      have hnd : ¬ polChk (f 0) (f 1) (f 2) (f 3) = 0 → OfSays s ⟨0, 0, 0, 0⟩ 3 := ofIs_end H4.out HAT.out
      rw [← hq] at htx
      have hq0 : f 0 = q.d := by rw [hq]
      have hq1 : f 1 = q.k := by rw [hq]
      have hq2 : f 2 = q.m := by rw [hq]
      have hq3 : f 3 = q.y := by rw [hq]
      rw [hq0, hq1, hq2, hq3] at hnd
      rw [hq0] at a0; rw [hq1] at a1; rw [hq2] at a2; rw [hq3] at a3
      have HTX := Lib.hid htx; have HND := Lib.hid hnd
      have hws := HBw.out.size
      have BQ := Lib.hid (Blk.new wr 23 #[.int .i64 q.d, .int .i64 q.k, .int .i64 q.m, .int .i64 q.y])
      have HBQ := Lib.hid (HBw.out.alloc hws (.cells #[.int .i64 q.d, .int .i64 q.k, .int .i64 q.m, .int .i64 q.y] 23))
      have hzq : wr.heap.size < (wr.alloc (.cells #[.int .i64 q.d, .int .i64 q.k, .int .i64 q.m, .int .i64 q.y] 23)).heap.size := by simp
      clear htx hnd hq hq0 hq1 hq2 hq3
      go_wp2_with fail
      refine (check_any q.d q.k q.m q.y _).mono ?_; rintro e w4 ⟨rfl, hb4⟩
      have HB4 := Lib.hid (HBQ.out.trans (hb4.mono HBQ.out.size))
      have HP4 := Lib.hid (HP.out.below HB4.out (by omega)); have BQ4 := Lib.hid (BQ.out.below hb4 hzq); have HBB4 := Lib.hid (HB.out.trans (HB4.out.mono (by omega)))
      clear hb4 a0 a1 a2 a3
      have c0 := BQ4.out.cell 0; have c1 := BQ4.out.cell 1; have c2 := BQ4.out.cell 2; have c3 := BQ4.out.cell 3
      simp only [List.getElem?_toArray, List.getElem?_cons_zero, List.getElem?_cons_succ] at c0 c1 c2 c3
      by_cases hch : polChk q.d q.k q.m q.y = 0
      · have HOF := Lib.hid (show OfSays s q 0 from .inl ⟨rfl, hch, HTX.out⟩)
        rw [hch]
        clear hch
        have p0 := HP4.out.cell 0; have p1 := HP4.out.cell 1; have p2 := HP4.out.cell 2; have p3 := HP4.out.cell 3
        have g0 := HP4.out.frozen 0; have g1 := HP4.out.frozen 1; have g2 := HP4.out.frozen 2; have g3 := HP4.out.frozen 3
        simp only [List.getElem?_toArray, List.getElem?_cons_zero, List.getElem?_cons_succ] at p0 p1 p2 p3
        go_wp2_with fail
        change bodyPost _ _ _ _ _ (stores w4 (fill w.heap.size 0 [.int .i64 q.d, .int .i64 q.k, .int .i64 q.m, .int .i64 q.y]))
        exact bodyPost_ret (of49_results _ _ _ _ _ _ _ _ rfl rfl (over4 HP4.out _ _ _ _)) rfl ⟨q, 0, rfl, HOF.out, HBB4.out.trans (stores_below _ _ (fun p hp => by have := fill_block _ _ _ _ hp; have := HBB4.out.size; omega))⟩
      · have HOF := Lib.hid (HND.out hch)
        have hch' : (polChk q.d q.k q.m q.y == 0) = false := by rw [beq_eq_false_iff_ne]; exact hch
        clear hch
        have p0 := HP4.out.cell 0; have p1 := HP4.out.cell 1; have p2 := HP4.out.cell 2; have p3 := HP4.out.cell 3
        have g0 := HP4.out.frozen 0; have g1 := HP4.out.frozen 1; have g2 := HP4.out.frozen 2; have g3 := HP4.out.frozen 3
        simp only [List.getElem?_toArray, List.getElem?_cons_zero, List.getElem?_cons_succ] at p0 p1 p2 p3
        go_wp2_with fail
        change bodyPost _ _ _ _ _ (stores w4 (fill w.heap.size 0 [.int .i64 0, .int .i64 0, .int .i64 0, .int .i64 0]))
        exact bodyPost_ret (of49_results _ _ _ _ _ _ _ _ rfl rfl (over4 HP4.out _ _ _ _)) rfl ⟨⟨0, 0, 0, 0⟩, 3, rfl, HOF.out, HBB4.out.trans (stores_below _ _ (fun p hp => by have := fill_block _ _ _ _ hp; have := HBB4.out.size; omega))⟩

end Go.Proofs.YtgelaffifjicoaaGreatDoor
