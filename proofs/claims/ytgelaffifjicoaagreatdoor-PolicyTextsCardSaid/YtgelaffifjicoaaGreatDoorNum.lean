/-
  WALKS: the document's number.
-/
import Derived.Test.YtgelaffifjicoaaGreatDoorRefi
import Derived.Test.YtgelaffifjicoaaGreatDoorSmall
namespace Go.Proofs.YtgelaffifjicoaaGreatDoor
open Go.RowKit Go.Lib
set_option linter.unusedSimpArgs false
set_option linter.unusedVariables false

theorem cut_at (s : ByteArray) (k : Nat) (h : k < s.size) : s.data.toList = (s.extract 0 k).data.toList ++ s[k] :: (s.extract (k + 1) s.size).data.toList := by
  rw [Lib.extract_from_zero, Lib.extract_to_end]
  conv => lhs; rw [← List.take_append_drop k s.data.toList]
  rw [List.drop_eq_getElem_cons (by simpa using h)]
  rfl
theorem no_sign {s : ByteArray} {c : UInt8} {k : Nat} (hk : k ≤ s.size) (h : ∀ j (hj : j < s.size), j < k → s[j] ≠ c) : c ∉ (s.extract 0 k).data.toList := by
  rw [Lib.extract_from_zero]
  intro hm
  obtain ⟨j, hj, e⟩ := List.getElem_of_mem hm
  rw [List.getElem_take] at e
  have hjk : j < k := by simp at hj; omega
  exact h j (by omega) hjk e
theorem numSays_int {s : ByteArray} {c : UInt8} (hc : 57 < c.toNat) {k : Nat} (hk : k < s.size) (hs : s[k] = c) (h : ∀ j (hj : j < s.size), j < k → s[j] ≠ c) {v : Int} {b : Bool} (hv : IntSays (s.extract 0 k) v b) :
    NumSays s.data.toList c v (s.extract (k + 1) s.size).data.toList (b && decide (0 ≤ v) && decide (v ≤ 1000)) := by
  have e := cut_at s k hk
  rw [hs] at e
  have hno := no_sign (Nat.le_of_lt hk) h
  rcases hv with ⟨rfl, hv⟩ | ⟨rfl, hv⟩
  · by_cases hr : 0 ≤ v ∧ v ≤ 1000
    · exact .inl ⟨by simp [hr.1, hr.2], hr, by rw [← hv]; exact e⟩
    · refine .inr ⟨?_, fun u t hu hh => ?_⟩
      · rw [Bool.eq_false_iff]; intro hh; simp at hh; exact hr hh
      · obtain ⟨h1, _⟩ := cut_inj hno (itoa_no hu.1 (.inr hc)) (e.symm.trans hh)
        rw [hv] at h1
        by_cases hn : v < 0
        · have hm : (45 : UInt8) ∈ itoa u := by rw [← h1]; unfold itoa; rw [if_pos hn]; exact List.mem_cons_self
          exact itoa_no hu.1 (.inl (by decide)) hm
        · exact hr (by rw [itoa_inj (by omega) hu.1 h1]; exact hu)
  · refine .inr ⟨rfl, fun u t hu hh => ?_⟩
    obtain ⟨h1, _⟩ := cut_inj hno (itoa_no hu.1 (.inr hc)) (e.symm.trans hh)
    exact hv u hu h1

def NumPost (s : ByteArray) (c : UInt8) (w : World) (e : Ending) (w' : World) : Prop :=
  ∃ (n : Int) (rest : ByteArray) (ok : Bool), e = .returned (.tuple #[.int .i64 n, .string rest, .bool ok]) ∧ NumSays s.data.toList c n rest.data.toList ok ∧ okI n ∧ rest.size ≤ s.size ∧ Below w.heap.size w w'
set_option maxRecDepth 100000 in
set_option maxHeartbeats 2000000 in
theorem number_any (s : ByteArray) (hs : s.size ≤ 300) (c : UInt8) (hc : 57 < c.toNat) (w : World) :
    Calls Tryz.prog 14 #[.string s, .int .u8 c.toNat] w (NumPost s c w) := by
  have hsI : (s.size : Int) ≤ 300 := by omega
  go_enter Tryz.func14, Tryz.ntmps14
  go_wp2_with fail
  go_loop [7] (fun i => ∃ k : Nat, i = .int .i64 k ∧ k ≤ s.size ∧ ∀ j (hj : j < s.size), j < k → s[j] ≠ c) (fun i => s.size - (intOf i).toNat)
  case atStart => exact ⟨0, rfl, Nat.zero_le _, fun j hj h => absurd h (Nat.not_lt_zero _)⟩
  case round =>
    obtain ⟨k, rfl, hk, hno⟩ := hrel
    have HN := Lib.hid hno
    clear hno
    by_cases hlt : k < s.size
    · have hkI : (k : Int) < (s.size : Int) := by omega
      by_cases he : s[k] = c
      · have hb : ((s[k].toNat : Int) == (c.toNat : Int)) = true := by rw [he]; simp
        have HE := Lib.hid he
        clear he
        have hsz : (s.extract 0 k).size ≤ 1000 := by simp; omega
        go_wp2_with fail
        refine (refInt_any (s.extract 0 k) hsz w).mono ?_; rintro e w1 ⟨⟨v, b, rfl, hv, hok⟩, hb1⟩
        obtain ⟨hv1, hv2⟩ := hok
        have HNS := Lib.hid (numSays_int hc hlt HE.out HN.out hv)
        have HB1 := Lib.hid hb1
        have hwr : IntKind.i64.wrap ((k : Int) + 1) = (k : Int) + 1 := by rw [IntKind.wrap_i64]; omega
        have hk1 : (0 : Int) ≤ (k : Int) + 1 := by omega
        have hk2 : (k : Int) + 1 ≤ (s.size : Int) := by omega
        have hk3 : ((k : Int) + 1).toNat = k + 1 := by omega
        clear hv hb1
        have hrs : (s.extract (k + 1) s.size).size ≤ s.size := by simp
        cases b
        · go_wp2_with fail
          go_quiet (fail)
          go_wp2_with fail
          go_ret3
          exact ⟨v, _, false, rfl, HNS.out, ⟨hv1, hv2⟩, hrs, below_drewN HB1.out _⟩
        · by_cases h0 : 0 ≤ v
          · by_cases h1 : v ≤ 1000
            · have hns := HNS.out
              rw [decide_eq_true h0, decide_eq_true h1] at hns
              have HNT := Lib.hid hns
              clear hns
              go_wp2_with fail
              go_quiet (fail)
              go_wp2_with fail
              go_ret3
              exact ⟨v, _, true, rfl, HNT.out, ⟨hv1, hv2⟩, hrs, below_drewN HB1.out _⟩
            · have hns := HNS.out
              have hd1 : decide (v ≤ 1000) = false := decide_eq_false h1
              rw [decide_eq_true h0, hd1] at hns
              have HNT := Lib.hid hns
              clear hns
              go_wp2_with fail
              go_quiet (fail)
              go_wp2_with fail
              go_ret3
              exact ⟨v, _, false, rfl, HNT.out, ⟨hv1, hv2⟩, hrs, below_drewN HB1.out _⟩
          · have hns := HNS.out
            have hd0 : decide (0 ≤ v) = false := decide_eq_false h0
            rw [hd0] at hns
            have HNT := Lib.hid hns
            clear hns
            go_wp2_with fail
            go_quiet (fail)
            go_wp2_with fail
            go_ret3
            exact ⟨v, _, false, rfl, HNT.out, ⟨hv1, hv2⟩, hrs, below_drewN HB1.out _⟩
      · have hb : ((s[k].toNat : Int) == (c.toNat : Int)) = false := by
          rw [beq_eq_false_iff_ne]; intro h; exact he (UInt8.toNat_inj.1 (by omega))
        have HE := Lib.hid he
        clear he
        go_wp2_with fail
        go_round
        case rel =>
          refine ⟨k + 1, by go_num, by omega, fun j hj hjk => ?_⟩
          by_cases e : j = k
          · subst e; exact HE.out
          · exact HN.out j hj (by omega)
        case measure => simp [intOf]; omega
    · have hke : k = s.size := by omega
      subst hke
      go_wp2_with fail
      go_ret3
      exact ⟨0, ⟨#[]⟩, false, rfl, .inr ⟨rfl, fun u t hu e => by
        have hm : c ∈ s.data.toList := by rw [e]; simp
        obtain ⟨j, hj, ej⟩ := List.getElem_of_mem hm
        exact HN.out j (by simpa using hj) (by simpa using hj) ej⟩, ok0, Nat.zero_le _, Below.refl _ _⟩

end Go.Proofs.YtgelaffifjicoaaGreatDoor
