/-
  WALKS: num.Dec, num.Int at every number and text; the document's Dec and Int.
-/
import Derived.Lib.AppendIntMem
import Derived.Lib.SmallJoins
import Derived.Test.YtgelaffifjicoaaGreatDoorLibs
import Derived.Test.YtgelaffifjicoaaGreatDoorLibs2
import Derived.Test.YtgelaffifjicoaaGreatDoorTxtP
namespace Go.Proofs.YtgelaffifjicoaaGreatDoor
open Go.RowKit Go.Lib
set_option linter.unusedSimpArgs false
set_option linter.unusedVariables false

/-- What the library asks of the world. -/
structure LibZ (w : World) : Prop where
  mx : ∃ m : Int, w.cell? ⟨0, 0, none⟩ = some (.int .i64 m)
  tab : Lib.TabIs Tryz.prog w "internal/strconv.uint64pow10" .u64 Lib.pow10Tab
  syn : ∃ te pe, w.cell? ⟨1, 0, none⟩ = some (.iface te pe)
  rng : ∃ te pe, w.cell? ⟨2, 0, none⟩ = some (.iface te pe)
theorem LibZ.below {w w' : World} (h : LibZ w) {B : Nat} (hb : Below B w w') (hB : w.heap.size ≤ B) : LibZ w' := by
  obtain ⟨⟨m, h1⟩, h2, ⟨a, b, h3⟩, ⟨c, d, h4⟩⟩ := h
  exact ⟨⟨m, (hb.cell (p := ⟨0, 0, none⟩) (Nat.lt_of_lt_of_le (World.block_lt_of_cell? w _ h1) hB)).trans h1⟩,
    Go.Joins.tab_stays (g := 3) (by kernel_rfl) h2 hb hB,
    ⟨a, b, (hb.cell (p := ⟨1, 0, none⟩) (Nat.lt_of_lt_of_le (World.block_lt_of_cell? w _ h3) hB)).trans h3⟩,
    ⟨c, d, (hb.cell (p := ⟨2, 0, none⟩) (Nat.lt_of_lt_of_le (World.block_lt_of_cell? w _ h4) hB)).trans h4⟩⟩
theorem bytes_below (w : World) (e : TypeId) (s : ByteArray) : Below w.heap.size w (Lib.bytesWorld w e s) := Lib.bytesWorld_below _ _ _

theorem decAll_any (n : Int) (hn : okI n) (w : World) (h : LibZ w) :
    Calls Tryz.prog 16 #[.int .i64 n] w fun e w' => e = .returned (.string ⟨(itoa n).toArray⟩) ∧ Below w.heap.size w w' := by
  have HH := Lib.hid h
  clear h
  go_enter Tryz.func16, Tryz.ntmps16
  go_wp2_with fail
  refine (Any.strconv_FormatInt_10 fmtM n hn.1 hn.2 w HH.out.tab).mono ?_; rintro e w1 ⟨rfl, k, os, hw⟩
  have hb : Below w.heap.size w w1 := by rw [hw]; exact below_grow _ _ (Nat.le_refl _) _ _
  clear hw
  go_wp2_with fail
  go_ret
  exact ⟨rfl, hb⟩

theorem parse_okI {l : List UInt8} {v : Int} (h : parseIntB 64 l = .ok v) : okI v := by
  unfold parseIntB at h
  split at h
  · cases h
  · dsimp only at h
    split at h
    · cases h
    · cases h
    · rename_i u _
      split at h
      · cases h
      · split at h
        · cases h
        · rename_i h1 h2
          injection h with h
          subst h
          unfold okI
          split <;> rename_i h3 <;> simp only [h3, not_true_eq_false, false_and, not_false_eq_true, true_and] at h1 h2 <;> omega

set_option maxHeartbeats 1000000 in
theorem intAll_any (s : ByteArray) (hs : s.size ≤ 1000) (w : World) (h : LibZ w) :
    Calls Tryz.prog 13 #[.string s] w fun e w' => (∃ v b, e = .returned (.tuple #[.int .i64 v, .bool b]) ∧ IntSays s v b ∧ okI v) ∧ Below w.heap.size w w' := by
  have HH := Lib.hid h
  clear h
  go_enter Tryz.func13, Tryz.ntmps13
  go_wp2_with fail
  cases hp : parseIntB 64 s.data.toList with
  | ok v =>
    have hv := parse_okI hp
    refine (Any.strconv_ParseInt_10_at64_ok parseL s (by omega) v hp w).mono ?_; rintro e w1 ⟨rfl, hw⟩
    have hb : Below w.heap.size w w1 := by
      rcases hw with rfl | ⟨t, rfl⟩
      · exact Below.refl _ _
      · exact bytes_below _ _ _
    have HB := Lib.hid hb; have HP := Lib.hid hp
    clear hw hb hp
    go_wp2_with fail
    refine (decAll_any v hv w1 (HH.out.below HB.out (Nat.le_refl _))).mono ?_; rintro e w2 ⟨rfl, hb2⟩
    have HB2 := Lib.hid (HB.out.trans (hb2.mono HB.out.size))
    clear hb2
    by_cases he : (⟨(itoa v).toArray⟩ : ByteArray) = s
    · have HE := Lib.hid (show s.data.toList = itoa v by rw [← he])
      rw [he]
      clear he
      go_wp2_with fail
      go_ret2
      exact ⟨⟨v, true, rfl, .inl ⟨rfl, HE.out⟩, hv⟩, HB2.out⟩
    · have e1 : (itoa v == s.toList) = false := by have := toList_ne he; simpa using this
      have HE := Lib.hid he
      clear he
      go_wp2_with fail
      go_ret2
      exact ⟨⟨0, false, rfl, .inr ⟨rfl, fun u hu e => by
        have h1 := HP.out
        rw [e, parse_itoa hu] at h1
        injection h1 with h1
        exact HE.out (ba_ext (by rw [← h1]; exact e.symm))⟩, by unfold okI; omega⟩, HB2.out⟩
  | «syntax» =>
    obtain ⟨te, pe, hc⟩ := HH.out.syn
    refine (Any.strconv_ParseInt_10_at64_syntax parseL s (by omega) hp (.iface te pe) w hc (.inr ⟨te, pe, rfl⟩)).mono ?_; rintro e w1 ⟨N, rfl, _, _, hb⟩
    have HB := Lib.hid hb; have HP := Lib.hid hp
    clear hb hp hc
    go_wp2_with fail
    go_ret2
    exact ⟨⟨0, false, rfl, .inr ⟨rfl, fun u hu e => by
      have h1 := HP.out
      rw [e, parse_itoa hu] at h1
      cases h1⟩, by unfold okI; omega⟩, HB.out⟩
  | range =>
    obtain ⟨te, pe, hc⟩ := HH.out.rng
    refine (Any.strconv_ParseInt_10_at64_range parseL s (by omega) hp (.iface te pe) w hc (.inr ⟨te, pe, rfl⟩)).mono ?_; rintro e w1 ⟨N, rfl, _, _, hb⟩
    have HB := Lib.hid hb; have HP := Lib.hid hp
    clear hb hp hc
    go_wp2_with fail
    go_ret2
    exact ⟨⟨0, false, rfl, .inr ⟨rfl, fun u hu e => by
      have h1 := HP.out
      rw [e, parse_itoa hu] at h1
      cases h1⟩, by unfold okI; omega⟩, HB.out⟩

end Go.Proofs.YtgelaffifjicoaaGreatDoor
