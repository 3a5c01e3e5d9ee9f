/-
  WALKS: the document's Int.
-/
import Derived.Test.YtgelaffifjicoaaGreatDoorRefd
namespace Go.Proofs.YtgelaffifjicoaaGreatDoor
open Go.RowKit Go.Lib
set_option linter.unusedSimpArgs false
set_option linter.unusedVariables false

theorem okI_wrap (x : Int) : okI (wrap64 x) := by unfold okI wrap64; omega
theorem okI_wrap' (x : Int) : okI (IntKind.i64.wrap x) := by rw [IntKind.wrap_i64]; unfold okI; omega
theorem valD_snoc (l : List UInt8) (b : UInt8) : valD (l ++ [b]) = valD l * 10 + (b.toNat - 48) := by unfold valD; rw [List.foldl_append]; rfl
theorem valD_lt (l : List UInt8) (h : ∀ b ∈ l, b.toNat ≤ 57) : valD l < 10 ^ l.length := by
  have go : ∀ (r : List UInt8) (a : Nat), (∀ b ∈ r, b.toNat ≤ 57) → r.foldl (fun a b => a * 10 + (b.toNat - 48)) a < (a + 1) * 10 ^ r.length := by
    intro r
    induction r with
    | nil => intro a _; simp
    | cons b r ih =>
      intro a hb
      have h1 := ih (a * 10 + (b.toNat - 48)) (fun x hx => hb x (List.mem_cons_of_mem _ hx))
      have h2 := hb b List.mem_cons_self
      rw [List.foldl_cons, List.length_cons, Nat.pow_succ]
      have h3 : (a * 10 + (b.toNat - 48) + 1) * 10 ^ r.length ≤ ((a + 1) * 10) * 10 ^ r.length := Nat.mul_le_mul_right _ (by omega)
      have h4 : (a + 1) * (10 ^ r.length * 10) = ((a + 1) * 10) * 10 ^ r.length := by rw [Nat.mul_assoc, Nat.mul_comm 10]
      omega
  have := go l 0 h
  simpa [valD] using this
/-- What is known of the number while the text is gone through. -/
def IntAt (s : ByteArray) (k : Nat) (v : Int) : Prop := ∀ u, okN u → s.data.toList = itoa u → v = (valD (s.data.toList.take k) : Int)
theorem intAt_digit {s : ByteArray} {u : Int} (hu : okN u) (h : s.data.toList = itoa u) {k : Nat} (hk : k < s.size) : 48 ≤ (s[k]).toNat ∧ (s[k]).toNat ≤ 57 := by
  have hm : s[k] ∈ itoa u := by rw [← h]; exact Array.getElem_mem_toList hk
  rw [itoa_dec hu.1] at hm
  exact dec_digits _ _ hm
theorem take_byte (s : ByteArray) (k : Nat) (h : k < s.size) : s.data.toList.take (k + 1) = s.data.toList.take k ++ [s[k]] := by
  rw [List.take_succ_eq_append_getElem (by simpa using h)]; rfl
theorem intAt_skip {s : ByteArray} {k : Nat} {v' : Int} (hk : k < s.size) (h : ¬ (48 ≤ (s[k]).toNat ∧ (s[k]).toNat ≤ 57)) : IntAt s (k + 1) v' := fun u hu e => absurd (intAt_digit hu e hk) h
theorem intAt_minus {s : ByteArray} {k : Nat} {v' : Int} (h0 : 0 < s.size) (h : (s[0]).toNat = 45) : IntAt s k v' := fun u hu e => absurd (intAt_digit hu e h0) (by omega)
theorem intAt_step {s : ByteArray} {k : Nat} {v v' : Int} (hk : k < s.size) (h : IntAt s k v) (hv : 0 ≤ v → v < 100000 → v' = v * 10 + ((s[k]).toNat - 48 : Nat)) : IntAt s (k + 1) v' := by
  intro u hu e
  have hv0 := h u hu e
  have hl := len_itoa hu
  have hb : valD (s.data.toList.take k) < 10 ^ (s.data.toList.take k).length := valD_lt _ (fun b hb => by
    have hm := List.mem_of_mem_take hb
    rw [e, itoa_dec hu.1] at hm
    exact (dec_digits _ _ hm).2)
  have hlen : (s.data.toList.take k).length ≤ 4 := by rw [List.length_take, e]; omega
  have hp : 10 ^ (s.data.toList.take k).length ≤ 10 ^ 4 := Nat.pow_le_pow_right (by decide) hlen
  have := hv (by omega) (by omega)
  rw [take_byte s k hk, valD_snoc, this, hv0]
  push_cast
  rfl
theorem intAt_end {s : ByteArray} {v : Int} (h : IntAt s s.size v) {u : Int} (hu : okN u) (e : s.data.toList = itoa u) : v = u := by
  have := h u hu e
  rw [List.take_of_length_le (by simp), e, itoa_dec hu.1, valD_dec] at this
  have := hu.1
  omega

def IntPost (s : ByteArray) (w : World) (e : Ending) (w' : World) : Prop := (∃ v b, e = .returned (.tuple #[.int .i64 v, .bool b]) ∧ IntSays s v b ∧ okI v) ∧ Below w.heap.size w w'
theorem hidNo {s : ByteArray} (h : s.size = 0 ∨ 20 < s.size) : IntSays s 0 false := .inr ⟨rfl, fun u hu e => by
    have h1 := len_itoa hu
    have h2 := itoa_ne hu.1
    rw [← e] at h1 h2
    rcases h with h | h
    · exact h2 (List.eq_nil_of_length_eq_zero (by simpa using h))
    · have : s.data.toList.length = s.size := by simp
      omega⟩
theorem noDigit {s : ByteArray} {k : Nat} (hk : k < s.size) (h : ¬ (48 ≤ (s[k]).toNat ∧ (s[k]).toNat ≤ 57)) : IntSays s 0 false := .inr ⟨rfl, fun u hu e => h (intAt_digit hu e hk)⟩
theorem ok0 : okI 0 := by unfold okI; omega

set_option maxRecDepth 100000 in
set_option maxHeartbeats 2000000 in
theorem refInt_any (s : ByteArray) (hs : s.size ≤ 1000) (w : World) :
    Calls Tryz.prog 30 #[.string s] w (IntPost s w) := by
  by_cases h0 : s.size = 0
  · have h0' : ((s.size : Int) == 0) = true := by simp [h0]
    have H0 := Lib.hid h0
    clear h0
    go_enter Tryz.func30, Tryz.ntmps30
    go_wp2_with fail
    go_ret2
    exact ⟨⟨0, false, rfl, hidNo (.inl H0.out), ok0⟩, Below.refl _ _⟩
  have h0' : ((s.size : Int) == 0) = false := by rw [beq_eq_false_iff_ne]; omega
  have h00 : 0 < s.size := by omega
  by_cases h20 : (20 : Int) < s.size
  · go_enter Tryz.func30, Tryz.ntmps30
    go_wp2_with fail
    go_ret2
    exact ⟨⟨0, false, rfl, hidNo (.inr (by omega)), ok0⟩, Below.refl _ _⟩
  go_enter Tryz.func30, Tryz.ntmps30
  go_wp2_with fail
  go_loop [4, 5] (fun n i => ∃ (k : Nat) (v : Int), i = .int .i64 k ∧ k ≤ s.size ∧ n = .int .i64 v ∧ okI v ∧ IntAt s k v) (fun _ i => s.size - (intOf i).toNat)
  case atStart => exact ⟨0, 0, rfl, Nat.zero_le _, rfl, by unfold okI; omega, fun u hu e => by simp [valD]⟩
  case round =>
    obtain ⟨k, v, rfl, hk, rfl, hv, hat⟩ := hrel
    obtain ⟨hv1, hv2⟩ := hv
    have HAT := Lib.hid hat
    clear hat
    by_cases hlt : k < s.size
    · have hkI : (k : Int) < (s.size : Int) := by omega
      have h00I : (0 : Int) < (s.size : Int) := by omega
      have H2 := Lib.hid (show 0 < s.size from h00)
      by_cases hc : (s[k].toNat : Int) = 45
      · have hcb : ((s[k].toNat : Int) == 45) = true := by rw [beq_iff_eq]; exact hc
        have HND := Lib.hid (show ¬ (48 ≤ (s[k]).toNat ∧ (s[k]).toNat ≤ 57) by omega)
        have hc48 : (s[k].toNat : Int) < 48 := by omega
        clear hc
        by_cases hk0 : k = 0
        · subst hk0
          go_wp2_with fail
          go_round
          case rel => exact ⟨1, v, rfl, by omega, rfl, ⟨hv1, hv2⟩, intAt_skip H2.out HND.out⟩
          case measure => simp [intOf]; omega
        · have hk0' : ((k : Int) == 0) = false := by rw [beq_eq_false_iff_ne]; omega
          go_wp2_with fail
          go_ret2
          exact ⟨⟨0, false, rfl, noDigit hlt HND.out, ok0⟩, Below.refl _ _⟩
      · have hcb : ((s[k].toNat : Int) == 45) = false := by rw [beq_eq_false_iff_ne]; exact hc
        clear hc
        by_cases hlo : (s[k].toNat : Int) < 48
        · have HND := Lib.hid (show ¬ (48 ≤ (s[k]).toNat ∧ (s[k]).toNat ≤ 57) by omega)
          go_wp2_with fail
          go_ret2
          exact ⟨⟨0, false, rfl, noDigit hlt HND.out, ok0⟩, Below.refl _ _⟩
        · by_cases hhi : (57 : Int) < (s[k].toNat : Int)
          · have HND := Lib.hid (show ¬ (48 ≤ (s[k]).toNat ∧ (s[k]).toNat ≤ 57) by omega)
            go_wp2_with fail
            go_ret2
            exact ⟨⟨0, false, rfl, noDigit hlt HND.out, ok0⟩, Below.refl _ _⟩
          · by_cases hm : (s[0].toNat : Int) = 45
            · have hmb : ((s[0].toNat : Int) == 45) = true := by rw [beq_iff_eq]; exact hm
              have HM := Lib.hid (show (s[0]).toNat = 45 by omega)
              clear hm
              go_wp2_with fail
              go_round
              case rel => exact ⟨k + 1, _, by go_num, by omega, rfl, by first | exact okI_wrap _ | exact okI_wrap' _, intAt_minus H2.out HM.out⟩
              case measure => simp [intOf]; omega
            · have hmb : ((s[0].toNat : Int) == 45) = false := by rw [beq_eq_false_iff_ne]; exact hm
              clear hm
              go_wp2_with fail
              go_round
              case rel => exact ⟨k + 1, _, by go_num, by omega, rfl, by first | exact okI_wrap _ | exact okI_wrap' _, intAt_step hlt HAT.out (fun a b => by unfold wrap64; omega)⟩
              case measure => simp [intOf]; omega
    · have hke : k = s.size := by omega
      subst hke
      go_wp2_with fail
      refine (refDec_any v ⟨hv1, hv2⟩ w).mono ?_; rintro e w1 ⟨rfl, hb⟩
      by_cases he : (⟨(itoa v).toArray⟩ : ByteArray) = s
      · have HE := Lib.hid (show s.data.toList = itoa v by rw [← he])
        rw [he]
        clear he
        go_wp2_with fail
        go_ret2
        exact ⟨⟨v, true, rfl, .inl ⟨rfl, HE.out⟩, ⟨hv1, hv2⟩⟩, hb⟩
      · have e1 : (itoa v == s.toList) = false := by have := toList_ne he; simpa using this
        have HE := Lib.hid he
        clear he
        go_wp2_with fail
        go_ret2
        exact ⟨⟨0, false, rfl, .inr ⟨rfl, fun u hu e => HE.out (ba_ext (by rw [intAt_end HAT.out hu e]; exact e.symm))⟩, ok0⟩, hb⟩

end Go.Proofs.YtgelaffifjicoaaGreatDoor
