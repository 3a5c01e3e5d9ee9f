/-
  WALKS: the reference of layer 49: Check, period, later, kept, Keep: it keeps what package policy keeps.
-/
import Derived.Test.YtfjlhcapkfcpkaaRef48
import Derived.Test.YtfjlhcapkfcpkaaUp
import Derived.Test.YtfjlhcapkfcpkaaSmall
namespace Go.Proofs.Ytfjlhcapkfcpkaa
open Go.RowKit
set_option linter.unusedSimpArgs false
set_option linter.unusedVariables false

set_option maxHeartbeats 400000 in
theorem check49_any (d k m y : Int) (w : World) :
    Calls Try.prog 47 #[polV d k m y] w fun e w' => e = .returned (.int .i64 (polChk d k m y)) ∧ Below w.heap.size w w' := by
  go_enter Try.func47, Try.ntmps47
  have hb : Below w.heap.size w ((w.alloc (.cells #[.int .i64 d, .int .i64 k, .int .i64 m, .int .i64 y] 25)).alloc (.cells #[.int .i64 d, .int .i64 k, .int .i64 m, .int .i64 y] 3)) := by (repeat' (first | with_reducible exact Below.refl _ _ | assumption | (with_reducible refine Below.drew ?_) | (with_reducible refine below_drewN ?_ _) | (with_reducible refine Below.alloc ?_ (by first | exact Nat.le_refl _ | (simp; done) | (simp; omega)) _) | (with_reducible refine Below.setCell ?_ (by first | exact Nat.le_refl _ | (simp; done) | (simp; omega)) _)))
  go_wp2_with fail
  go_loop [15] (fun a => ∃ i : Nat, i ≤ 4 ∧ a = .int .i64 i ∧ polIn i d k m y) (fun a => 4 - (intOf a).toNat)
  case atStart => exact ⟨0, by omega, rfl, by unfold polIn; omega⟩
  case round =>
    obtain ⟨i, hi, rfl, hin⟩ := hrel
    have HI := Lib.hid hin
    clear hin
    rcases (show i = 0 ∨ i = 1 ∨ i = 2 ∨ i = 3 ∨ i = 4 from by omega) with rfl | rfl | rfl | rfl | rfl
    case inr.inr.inr.inr =>
      have hin := HI.out
      unfold polIn at hin
      by_cases hz : d + k + m + y = 0
      · go_wp2_with fail
        go_ret
        exact ⟨ret_int (by unfold polChk; rw [if_neg (by omega), if_pos (by omega)]), hb⟩
      · go_wp2_with fail
        go_ret
        exact ⟨ret_int (by unfold polChk; rw [if_neg (by omega), if_neg (by omega)]), hb⟩
    case inl =>
      have hin := HI.out
      unfold polIn at hin
      clear HI
      go_wp2
      · go_ret; exact ⟨ret_int (by rw [polChk_bad (by unfold polIn; omega)]), hb⟩
      · go_round
        case rel => exact ⟨1, by omega, rfl, by unfold polIn; omega⟩
        case measure => simp [intOf]
      · go_ret; exact ⟨ret_int (by rw [polChk_bad (by unfold polIn; omega)]), hb⟩
    case inr.inl =>
      have hin := HI.out
      unfold polIn at hin
      clear HI
      go_wp2
      · go_ret; exact ⟨ret_int (by rw [polChk_bad (by unfold polIn; omega)]), hb⟩
      · go_round
        case rel => exact ⟨2, by omega, rfl, by unfold polIn; omega⟩
        case measure => simp [intOf]
      · go_ret; exact ⟨ret_int (by rw [polChk_bad (by unfold polIn; omega)]), hb⟩
    case inr.inr.inl =>
      have hin := HI.out
      unfold polIn at hin
      clear HI
      go_wp2
      · go_ret; exact ⟨ret_int (by rw [polChk_bad (by unfold polIn; omega)]), hb⟩
      · go_round
        case rel => exact ⟨3, by omega, rfl, by unfold polIn; omega⟩
        case measure => simp [intOf]
      · go_ret; exact ⟨ret_int (by rw [polChk_bad (by unfold polIn; omega)]), hb⟩
    case inr.inr.inr.inl =>
      have hin := HI.out
      unfold polIn at hin
      clear HI
      go_wp2
      · go_ret; exact ⟨ret_int (by rw [polChk_bad (by unfold polIn; omega)]), hb⟩
      · go_round
        case rel => exact ⟨4, by omega, rfl, by unfold polIn; omega⟩
        case measure => simp [intOf]
      · go_ret; exact ⟨ret_int (by rw [polChk_bad (by unfold polIn; omega)]), hb⟩

set_option maxHeartbeats 400000 in
theorem period49_any (j : Nat) (hj : j < 4) (x : Int) (w : World) (h : okI x) :
    Calls Try.prog 56 #[.int .i64 j, .int .i64 x] w fun e w' => e = .returned (.int .i64 (perN j x)) ∧ w' = w := by
  rcases (show j = 0 ∨ j = 1 ∨ j = 2 ∨ j = 3 from by omega) with rfl | rfl | rfl | rfl
  case inl =>
    go_enter Try.func56, Try.ntmps56
    go_wp2_with fail
    refine (day48_any x _ h).mono ?_; rintro e w1 ⟨rfl, rfl⟩
    go_wp2_with fail
    go_ret
    exact ⟨rfl, rfl⟩
  case inr.inl =>
    go_enter Try.func56, Try.ntmps56
    go_wp2_with fail
    refine (week48_any x _ h).mono ?_; rintro e w1 ⟨rfl, rfl⟩
    go_wp2_with fail
    go_ret
    exact ⟨rfl, rfl⟩
  case inr.inr.inl =>
    go_enter Try.func56, Try.ntmps56
    go_wp2_with fail
    refine (month48_any x _ h).mono ?_; rintro e w1 ⟨rfl, rfl⟩
    go_wp2_with fail
    go_ret
    exact ⟨rfl, rfl⟩
  case inr.inr.inr =>
    go_enter Try.func56, Try.ntmps56
    go_wp2_with fail
    refine (year48_any x _ h).mono ?_; rintro e w1 ⟨rfl, rfl⟩
    go_wp2_with fail
    go_ret
    exact ⟨rfl, rfl⟩

set_option maxHeartbeats 400000 in
theorem later49_any (x y : Ref) (w : World) :
    Calls Try.prog 57 #[x.v, y.v] w fun e w' => (∃ v, e = .returned v ∧ ((v = .bool true ∧ later x.one y.one) ∨ (v = .bool false ∧ ¬ later x.one y.one))) ∧ Below w.heap.size w w' := by
  go_enter Try.func57, Try.ntmps57
  by_cases hm : x.m = y.m
  · have e1 : (x.m.toList == y.m.toList) = true := by rw [hm]; simp
    have HM := Lib.hid hm
    clear hm
    by_cases h1 : y.t < x.t
    · go_wp2_with fail
      go_ret
      exact ⟨⟨_, rfl, .inl ⟨rfl, HM.out, .inl h1⟩⟩, by (repeat' (first | with_reducible exact Below.refl _ _ | assumption | (with_reducible refine Below.drew ?_) | (with_reducible refine below_drewN ?_ _) | (with_reducible refine Below.alloc ?_ (by first | exact Nat.le_refl _ | (simp; done) | (simp; omega)) _) | (with_reducible refine Below.setCell ?_ (by first | exact Nat.le_refl _ | (simp; done) | (simp; omega)) _)))⟩
    · by_cases h2 : x.t = y.t
      · by_cases h3 : y.n < x.n
        · have hn : later x.one y.one := ⟨HM.out, .inr ⟨h2, h3⟩⟩
          have HN := Lib.hid hn
          clear hn
          go_wp2_with fail
          go_ret
          exact ⟨⟨_, rfl, .inl ⟨rfl, HN.out⟩⟩, by (repeat' (first | with_reducible exact Below.refl _ _ | assumption | (with_reducible refine Below.drew ?_) | (with_reducible refine below_drewN ?_ _) | (with_reducible refine Below.alloc ?_ (by first | exact Nat.le_refl _ | (simp; done) | (simp; omega)) _) | (with_reducible refine Below.setCell ?_ (by first | exact Nat.le_refl _ | (simp; done) | (simp; omega)) _)))⟩
        · have hn : ¬ later x.one y.one := fun c => by rcases c.2 with c | c; exact h1 c; exact h3 c.2
          have HN := Lib.hid hn
          clear hn
          go_wp2_with fail
          go_ret
          exact ⟨⟨_, rfl, .inr ⟨rfl, HN.out⟩⟩, by (repeat' (first | with_reducible exact Below.refl _ _ | assumption | (with_reducible refine Below.drew ?_) | (with_reducible refine below_drewN ?_ _) | (with_reducible refine Below.alloc ?_ (by first | exact Nat.le_refl _ | (simp; done) | (simp; omega)) _) | (with_reducible refine Below.setCell ?_ (by first | exact Nat.le_refl _ | (simp; done) | (simp; omega)) _)))⟩
      · have hn : ¬ later x.one y.one := fun c => by rcases c.2 with c | c; exact h1 c; exact h2 c.1
        have HN := Lib.hid hn
        clear hn
        go_wp2_with fail
        go_ret
        exact ⟨⟨_, rfl, .inr ⟨rfl, HN.out⟩⟩, by (repeat' (first | with_reducible exact Below.refl _ _ | assumption | (with_reducible refine Below.drew ?_) | (with_reducible refine below_drewN ?_ _) | (with_reducible refine Below.alloc ?_ (by first | exact Nat.le_refl _ | (simp; done) | (simp; omega)) _) | (with_reducible refine Below.setCell ?_ (by first | exact Nat.le_refl _ | (simp; done) | (simp; omega)) _)))⟩
  · have e1 := toList_ne hm
    have HM := Lib.hid hm
    clear hm
    go_wp2_with fail
    go_ret
    exact ⟨⟨_, rfl, .inr ⟨rfl, fun c => HM.out c.1⟩⟩, by (repeat' (first | with_reducible exact Below.refl _ _ | assumption | (with_reducible refine Below.drew ?_) | (with_reducible refine below_drewN ?_ _) | (with_reducible refine Below.alloc ?_ (by first | exact Nat.le_refl _ | (simp; done) | (simp; omega)) _) | (with_reducible refine Below.setCell ?_ (by first | exact Nat.le_refl _ | (simp; done) | (simp; omega)) _)))⟩

def pickB (per : Int → Int) (n : Int) (L : List One) (y : One) : Bool := !decide (per y.t ∈ above per L y) && decide (((distinct (above per L y)).length : Int) < n)
theorem pickB_iff (per : Int → Int) (n : Int) (L : List One) (y : One) : pickB per n L y = true ↔ picked per n L y := by
  unfold pickB picked; simp
theorem mem_take_succ (l : List Int) (q : Nat) (h : q < l.length) (p : Int) : decide (p ∈ l.take (q + 1)) = (decide (p ∈ l.take q) || decide (l[q] = p)) := by
  rw [Bool.eq_iff_iff]
  simp only [Bool.or_eq_true, decide_eq_true_eq]
  rw [List.take_succ_eq_append_getElem h, List.mem_append, List.mem_singleton, eq_comm (a := l[q])]
theorem infoI64 : (Try.prog.info? 2).map (fun i => (i.zero, i.size, i.bytes)) = some (some (.int .i64 0), 1, 8) := by kernel_rfl
theorem perN_ok (j : Nat) {x : Int} (h : okI x) : okI (perN j x) := by
  rcases j with _ | _ | _ | j
  · exact day_ok x h
  · exact week_ok x h
  · exact month_ok x h
  · exact year_ok x h

set_option maxRecDepth 100000 in
set_option maxHeartbeats 1000000 in
theorem kept49_any (l : List Ref) (hok : ∀ x ∈ l, x.ok) (A : Option Addr) (cap : Nat) (x : Ref) (hxo : x.ok) (j : Nat) (hj : j < 4) (most : Int) (w : World) (hr : Reads w w.heap.size 5 A l.length (l.flatMap Ref.cs)) (hfew : l.length ≤ 60) :
    Calls Try.prog 48 #[.slice A l.length cap, x.v, .int .i64 j, .int .i64 most] w fun e w' => e = .returned (.bool (pickB (perN j) most (l.map Ref.one) x.one)) ∧ Below w.heap.size w w' := by
  obtain ⟨b0, hi0, hz0, hz1, hz2⟩ := info_parts infoI64
  go_enter Try.func48, Try.ntmps48
  go_wp2_with fail
  refine (period49_any j hj x.t _ hxo.2.2.1).mono ?_; rintro e w1 ⟨rfl, rfl⟩
  have bX := Blk.new w 38 #[.string x.m, .int .i64 x.n, .int .i64 x.t, .string x.nm, .int .i64 x.u]
  have hb0 : Below w.heap.size w (w.alloc (.cells #[.string x.m, .int .i64 x.n, .int .i64 x.t, .string x.nm, .int .i64 x.u] 38)) := by (repeat' (first | with_reducible exact Below.refl _ _ | assumption | (with_reducible refine Below.drew ?_) | (with_reducible refine below_drewN ?_ _) | (with_reducible refine Below.alloc ?_ (by first | exact Nat.le_refl _ | (simp; done) | (simp; omega)) _) | (with_reducible refine Below.setCell ?_ (by first | exact Nat.le_refl _ | (simp; done) | (simp; omega)) _)))
  have hown0 : ((w.alloc (.cells #[.string x.m, .int .i64 x.n, .int .i64 x.t, .string x.nm, .int .i64 x.u] 38)).alloc (.cells #[] 2)).ownsRow (w.alloc (.cells #[.string x.m, .int .i64 x.n, .int .i64 x.t, .string x.nm, .int .i64 x.u] 38)).heap.size 2 1 (.slice (some ⟨(w.alloc (.cells #[.string x.m, .int .i64 x.n, .int .i64 x.t, .string x.nm, .int .i64 x.u] 38)).heap.size, 0, none⟩) 0 0) 0 [] := World.ownsRow_made (w.alloc (.cells #[.string x.m, .int .i64 x.n, .int .i64 x.t, .string x.nm, .int .i64 x.u] 38)) #[] 0 (Nat.le_refl _) (Nat.zero_le _) (by simp)
  rw [World.size_alloc] at hown0
  have HR := Lib.hid hr; have HBX := Lib.hid bX; have HB0 := Lib.hid hb0; have HO0 := Lib.hid hown0
  clear hr bX hb0 hown0
  go_wp2_with fail
  go_loopw [10, 24] (fun a i wr => ∃ (k : Nat) (Au : List Int), i = .int .i64 k ∧ k ≤ l.length ∧ wr.ownsRow (w.heap.size + 1) 2 1 a Au.length (Au.map (Value.int .i64)) ∧ Up (perN j) ((l.take k).map Ref.one) x.one Au ∧
      (∀ y ∈ (l.take k).map Ref.one, later y x.one → perN j y.t ≠ perN j x.one.t) ∧ Au.length ≤ k ∧ Below (w.heap.size + 1) (w.alloc (.cells #[.string x.m, .int .i64 x.n, .int .i64 x.t, .string x.nm, .int .i64 x.u] 38)) wr)
    (fun _ i _ => l.length - (intOf i).toNat)
  case atStart => exact ⟨0, [], rfl, Nat.zero_le _, HO0.out, up_nil _ _, by simp, Nat.le_refl _, (Below.refl _ _).alloc (by simp) _⟩
  case round =>
    obtain ⟨k, Au, rfl, hk, hown, hup, hla, hlen, hb⟩ := hrel
    have HU := Lib.hid hup; have HL := Lib.hid hla
    obtain ⟨Aa, ca, rfl⟩ := own_slice hown
    have hb1 := HB0.out.trans (hb.mono (by omega))
    clear hup hla
    by_cases hlt : k < l.length
    · obtain ⟨b, o, y, hA, hy, hbl, c0, c1, c2, c3, c4⟩ := (HR.out.below hb1).ref rfl hlt
      have hyo : y.ok := by rw [hy]; exact hok _ (List.getElem_mem _)
      have htk : (l.take (k + 1)).map Ref.one = (l.take k).map Ref.one ++ [y.one] := by
        rw [List.take_succ_eq_append_getElem hlt, List.map_append, ← hy]; rfl
      have HTK := Lib.hid htk
      have hmem : y.one ∈ l.map Ref.one := List.mem_map_of_mem (by rw [hy]; exact List.getElem_mem _)
      have HMEM := Lib.hid hmem
      clear hmem
      have bX1 := HBX.out.below (B := w.heap.size + 1) hb (by omega)
      have hown2 := hown.alloc (.cells #[.string y.m, .int .i64 y.n, .int .i64 y.t, .string y.nm, .int .i64 y.u] 38)
      have hb2 := hb.alloc (by have := hb.size; simp at this ⊢; omega) (.cells #[.string y.m, .int .i64 y.n, .int .i64 y.t, .string y.nm, .int .i64 y.u] 38)
      clear hown hb hy htk
      by_cases hm : y.m = x.m
      · have e1 : (y.m.toList == x.m.toList) = true := by rw [hm]; simp
        have x0 := bX1.cell 0; have x1 := bX1.cell 1; have x2 := bX1.cell 2; have x3 := bX1.cell 3; have x4 := bX1.cell 4
        simp only [List.getElem?_toArray, List.getElem?_cons_zero, List.getElem?_cons_succ] at x0 x1 x2 x3 x4
        have HM := Lib.hid hm
        have hbw : w.heap.size < wr.heap.size := bX1.lt
        subst hA
        clear hm bX1
        go_wp2_with fail
        refine (period49_any j hj y.t _ hyo.2.2.1).mono ?_; rintro e w2 ⟨rfl, rfl⟩
        have hm := HM.out
        by_cases hpe : perN j y.t = perN j x.t
        · have hpe' : (perN j y.t == perN j x.t) = true := by simp [hpe]
          have HPE := Lib.hid hpe
          clear hpe hm
          go_wp2_with fail
          refine (later49_any y x _).mono ?_; rintro e w3 ⟨⟨v, rfl, hv⟩, hb4⟩
          have hown3 := ownsRow_below hown2 hb4 (Nat.le_refl _)
          have hb3 := hb2.trans (hb4.mono (by have := hb2.size; simp at this ⊢; omega))
          have hm := HM.out
          clear x0 x1 x2 x3 x4 hown2 hb2 hb4 c0 c1 c2 c3 c4 e1
          rcases hv with ⟨rfl, hlt⟩ | ⟨rfl, hnl⟩
          · have hp : pickB (perN j) most (l.map Ref.one) x.one = false := by
              rw [Bool.eq_false_iff]
              intro c
              exact picked_not (per := perN j) (L := l.map Ref.one) (x := x.one) (y := y.one) HMEM.out hlt HPE.out most ((pickB_iff _ _ _ _).1 c)
            go_wp2_with fail
            go_ret
            exact ⟨by rw [hp]; rfl, HB0.out.trans (hb3.mono (by omega))⟩
          ·
            have HLY := Lib.hid (show later y.one x.one → perN j y.one.t ≠ perN j x.one.t from fun c => absurd c hnl)
            go_wp2_with fail
            go_loop [14, 50] (fun a i => ∃ q : Nat, i = .int .i64 q ∧ q ≤ Au.length ∧ a = .bool (decide (perN j y.t ≤ perN j x.t) || decide (perN j y.t ∈ Au.take q)))
              (fun _ i => Au.length - (intOf i).toNat)
            case atStart => exact ⟨0, rfl, Nat.zero_le _, by simp⟩
            case round =>
              obtain ⟨q, rfl, hq, rfl⟩ := hrel
              by_cases hql : q < Au.length
              · obtain ⟨b', o', v, hA', hv, hbl', e0⟩ := (Reads.of_own hown3).single hql
                obtain rfl : v = .int .i64 Au[q] := by
                  rw [List.getElem?_map, List.getElem?_eq_getElem hql] at hv
                  injection hv with hv; exact hv.symm
                have hql' : (q : Int) < (Au.length : Int) := by omega
                have htk : decide (perN j y.t ∈ Au.take (q + 1)) = (decide (perN j y.t ∈ Au.take q) || decide (Au[q] = perN j y.t)) := mem_take_succ Au q hql _
                have HTQ := Lib.hid htk
                generalize hqq : Au[q] = aq at *
                subst hA'
                clear htk hv hqq
                cases hbv : (decide (perN j y.t ≤ perN j x.t) || decide (perN j y.t ∈ Au.take q)) with
                | true =>
                  have HBV := Lib.hid hbv
                  clear hbv
                  go_wp2_with fail
                  go_round
                  case rel => exact ⟨q + 1, by go_num, by omega, by rw [HTQ.out, ← Bool.or_assoc, HBV.out]; rfl⟩
                  case measure => simp [intOf]; omega
                | false =>
                  have HBV := Lib.hid hbv
                  clear hbv
                  by_cases he : aq = perN j y.t
                  · have he' : (aq == perN j y.t) = true := by simp [he]
                    clear he
                    go_wp2_with fail
                    go_round
                    case rel => exact ⟨q + 1, by go_num, by omega, by rw [HTQ.out, ← Bool.or_assoc, HBV.out]; simpa using he'⟩
                    case measure => simp [intOf]; omega
                  · have he' : (aq == perN j y.t) = false := by simp [he]
                    clear he
                    go_wp2_with fail
                    go_round
                    case rel => exact ⟨q + 1, by go_num, by omega, by rw [HTQ.out, ← Bool.or_assoc, HBV.out]; simpa using he'⟩
                    case measure => simp [intOf]; omega
              · have hqe : q = Au.length := by omega
                subst hqe
                rw [List.take_length]
                cases hbv : (decide (perN j y.t ≤ perN j x.t) || decide (perN j y.t ∈ Au)) with
                | true =>
                  have hcase : ¬ perN j x.t < perN j y.t ∨ perN j y.t ∈ Au := by
                    simp only [Bool.or_eq_true, decide_eq_true_eq] at hbv
                    rcases hbv with c | c
                    · exact .inl (by omega)
                    · exact .inr c
                  have HCS := Lib.hid hcase
                  clear hbv hcase
                  go_wp2_with fail
                  go_roundw
                  case rel =>
                    refine ⟨k + 1, Au, by go_num, by omega, hown3, ?_, ?_, by omega, hb3⟩
                    · rw [HTK.out]; exact up_skip HU.out y.one (fun _ => HCS.out)
                    · rw [HTK.out]
                      intro z hz hl
                      rcases List.mem_append.1 hz with hz | hz
                      · exact HL.out z hz hl
                      · rcases List.mem_singleton.1 hz with rfl
                        exact HLY.out hl
                  case measure => simp [intOf]; omega
                | false =>
                  have hcase : perN j x.t < perN j y.t ∧ perN j y.t ∉ Au := by
                    simp only [Bool.or_eq_false_iff, decide_eq_false_iff_not] at hbv
                    exact ⟨by omega, hbv.2⟩
                  have HCS := Lib.hid hcase
                  clear hbv hcase
                  have hszb := hb3.size
                  go_wp2_with (at_builtin; refine wpList_append_own_at _ rfl (.tmp 63) (.tmp 65) 103 rfl (w.heap.size + 1) 2 b0 _ 1 8 Try.underlying103 hi0 hz0 hz1 hz2 rfl (by omega) _ _ _ rfl (hown3.alloc _) ⟨w3.heap.size, 0, none⟩ 1 1 [.int .i64 (perN j y.t)] rfl rfl (news_at _ _ _ (by simp)) (by simp [Value.oneCell']) (by unfold maxLen; omega) (by omega) (by simp at hszb ⊢; omega) ?_; intro v' w6 hown6 hgrow6 _ _)
                  have hb6 := (hb3.alloc (by simp at hszb ⊢; omega) _).grown hgrow6 (by simp at hszb ⊢; omega) (fun jj hjj => (hown3.lt jj hjj).1)
                  go_roundw
                  case rel =>
                    refine ⟨k + 1, Au ++ [perN j y.t], by go_num, by omega, by simpa using hown6, ?_, ?_, by simp; omega, hb6⟩
                    · rw [HTK.out]; exact up_add HU.out y.one hm HCS.out.1 HCS.out.2
                    · rw [HTK.out]
                      intro z hz hl
                      rcases List.mem_append.1 hz with hz | hz
                      · exact HL.out z hz hl
                      · rcases List.mem_singleton.1 hz with rfl
                        exact HLY.out hl
                  case measure => simp [intOf]; omega
        · have hpe' : (perN j y.t == perN j x.t) = false := by simp [hpe]
          obtain ⟨w3, hw3⟩ : ∃ W, W = wr.alloc (.cells #[.string y.m, .int .i64 y.n, .int .i64 y.t, .string y.nm, .int .i64 y.u] 38) := ⟨_, rfl⟩
          rw [← hw3] at hown2 hb2 ⊢
          have hown3 := hown2
          have hb3 := hb2
          clear x0 x1 x2 x3 x4 hown2 hb2 c0 c1 c2 c3 c4 e1 hw3
          have HLY := Lib.hid (show later y.one x.one → perN j y.one.t ≠ perN j x.one.t from fun _ => hpe)
          go_wp2_with fail
          go_loop [14, 50] (fun a i => ∃ q : Nat, i = .int .i64 q ∧ q ≤ Au.length ∧ a = .bool (decide (perN j y.t ≤ perN j x.t) || decide (perN j y.t ∈ Au.take q)))
            (fun _ i => Au.length - (intOf i).toNat)
          case atStart => exact ⟨0, rfl, Nat.zero_le _, by simp⟩
          case round =>
            obtain ⟨q, rfl, hq, rfl⟩ := hrel
            by_cases hql : q < Au.length
            · obtain ⟨b', o', v, hA', hv, hbl', e0⟩ := (Reads.of_own hown3).single hql
              obtain rfl : v = .int .i64 Au[q] := by
                rw [List.getElem?_map, List.getElem?_eq_getElem hql] at hv
                injection hv with hv; exact hv.symm
              have hql' : (q : Int) < (Au.length : Int) := by omega
              have htk : decide (perN j y.t ∈ Au.take (q + 1)) = (decide (perN j y.t ∈ Au.take q) || decide (Au[q] = perN j y.t)) := mem_take_succ Au q hql _
              have HTQ := Lib.hid htk
              generalize hqq : Au[q] = aq at *
              subst hA'
              clear htk hv hqq
              cases hbv : (decide (perN j y.t ≤ perN j x.t) || decide (perN j y.t ∈ Au.take q)) with
              | true =>
                have HBV := Lib.hid hbv
                clear hbv
                go_wp2_with fail
                go_round
                case rel => exact ⟨q + 1, by go_num, by omega, by rw [HTQ.out, ← Bool.or_assoc, HBV.out]; rfl⟩
                case measure => simp [intOf]; omega
              | false =>
                have HBV := Lib.hid hbv
                clear hbv
                by_cases he : aq = perN j y.t
                · have he' : (aq == perN j y.t) = true := by simp [he]
                  clear he
                  go_wp2_with fail
                  go_round
                  case rel => exact ⟨q + 1, by go_num, by omega, by rw [HTQ.out, ← Bool.or_assoc, HBV.out]; simpa using he'⟩
                  case measure => simp [intOf]; omega
                · have he' : (aq == perN j y.t) = false := by simp [he]
                  clear he
                  go_wp2_with fail
                  go_round
                  case rel => exact ⟨q + 1, by go_num, by omega, by rw [HTQ.out, ← Bool.or_assoc, HBV.out]; simpa using he'⟩
                  case measure => simp [intOf]; omega
            · have hqe : q = Au.length := by omega
              subst hqe
              rw [List.take_length]
              cases hbv : (decide (perN j y.t ≤ perN j x.t) || decide (perN j y.t ∈ Au)) with
              | true =>
                have hcase : ¬ perN j x.t < perN j y.t ∨ perN j y.t ∈ Au := by
                  simp only [Bool.or_eq_true, decide_eq_true_eq] at hbv
                  rcases hbv with c | c
                  · exact .inl (by omega)
                  · exact .inr c
                have HCS := Lib.hid hcase
                clear hbv hcase
                go_wp2_with fail
                go_roundw
                case rel =>
                  refine ⟨k + 1, Au, by go_num, by omega, hown3, ?_, ?_, by omega, hb3⟩
                  · rw [HTK.out]; exact up_skip HU.out y.one (fun _ => HCS.out)
                  · rw [HTK.out]
                    intro z hz hl
                    rcases List.mem_append.1 hz with hz | hz
                    · exact HL.out z hz hl
                    · rcases List.mem_singleton.1 hz with rfl
                      exact HLY.out hl
                case measure => simp [intOf]; omega
              | false =>
                have hcase : perN j x.t < perN j y.t ∧ perN j y.t ∉ Au := by
                  simp only [Bool.or_eq_false_iff, decide_eq_false_iff_not] at hbv
                  exact ⟨by omega, hbv.2⟩
                have HCS := Lib.hid hcase
                clear hbv hcase
                have hszb := hb3.size
                go_wp2_with (at_builtin; refine wpList_append_own_at _ rfl (.tmp 63) (.tmp 65) 103 rfl (w.heap.size + 1) 2 b0 _ 1 8 Try.underlying103 hi0 hz0 hz1 hz2 rfl (by omega) _ _ _ rfl (hown3.alloc _) ⟨w3.heap.size, 0, none⟩ 1 1 [.int .i64 (perN j y.t)] rfl rfl (news_at _ _ _ (by simp)) (by simp [Value.oneCell']) (by unfold maxLen; omega) (by omega) (by simp at hszb ⊢; omega) ?_; intro v' w6 hown6 hgrow6 _ _)
                have hb6 := (hb3.alloc (by simp at hszb ⊢; omega) _).grown hgrow6 (by simp at hszb ⊢; omega) (fun jj hjj => (hown3.lt jj hjj).1)
                go_roundw
                case rel =>
                  refine ⟨k + 1, Au ++ [perN j y.t], by go_num, by omega, by simpa using hown6, ?_, ?_, by simp; omega, hb6⟩
                  · rw [HTK.out]; exact up_add HU.out y.one hm HCS.out.1 HCS.out.2
                  · rw [HTK.out]
                    intro z hz hl
                    rcases List.mem_append.1 hz with hz | hz
                    · exact HL.out z hz hl
                    · rcases List.mem_singleton.1 hz with rfl
                      exact HLY.out hl
                case measure => simp [intOf]; omega
      · have e1 := toList_ne hm
        have x0 := bX1.cell 0
        simp only [List.getElem?_toArray, List.getElem?_cons_zero, List.getElem?_cons_succ] at x0
        have HM := Lib.hid hm
        have hbw : w.heap.size < wr.heap.size := bX1.lt
        have hown3 := hown2
        have hb3 := hb2
        subst hA
        clear hm bX1 hown2 hb2
        go_wp2_with fail
        go_roundw
        case rel =>
          refine ⟨k + 1, Au, by go_num, by omega, hown3, ?_, ?_, by omega, hb3⟩
          · rw [HTK.out]; exact up_skip HU.out y.one (fun c => absurd c HM.out)
          · rw [HTK.out]
            intro z hz hl
            rcases List.mem_append.1 hz with hz | hz
            · exact HL.out z hz hl
            · rcases List.mem_singleton.1 hz with rfl
              exact absurd hl.1 HM.out
        case measure => simp [intOf]; omega
    · have hke : k = l.length := by omega
      subst hke
      have hu := HU.out
      have hl := HL.out
      rw [List.take_length] at hu hl
      have hp : pickB (perN j) most (l.map Ref.one) x.one = decide ((Au.length : Int) < most) := by
        rw [Bool.eq_iff_iff, pickB_iff, decide_eq_true_eq]
        exact picked_up (perN_grows j) hu hl most
      clear hu hl
      go_wp2_with fail
      go_ret
      exact ⟨by rw [hp]; rfl, hb1⟩

end Go.Proofs.Ytfjlhcapkfcpkaa
