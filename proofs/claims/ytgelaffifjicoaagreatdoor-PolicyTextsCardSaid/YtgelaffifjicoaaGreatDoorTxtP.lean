/-
  PLAIN LAW: a policy's text: its parts, cut at blanks, and what a text tells.
-/
import Derived.Lib.ItoaMem
import Derived.Lib.ParseIntB
import Derived.Lib.SplitLaws
import Derived.Lib.IndexBytes
import Derived.Test.YtgelaffifjicoaaGreatDoorKeep
namespace Go.Proofs.YtgelaffifjicoaaGreatDoor
open Go.RowKit Go.Lib
set_option linter.unusedSimpArgs false
set_option linter.unusedVariables false

/-! ### Numbers as digits -/
theorem dec_digits : ∀ (u : Nat), ∀ b ∈ decDigits u, 48 ≤ b.toNat ∧ b.toNat ≤ 57 := by
  intro u
  induction u using Nat.strongRecOn with
  | ind u ih =>
    intro b hb
    rw [decDigits] at hb
    split at hb
    · simp at hb; subst hb; simp [UInt8.toNat_ofNat']; omega
    · rcases List.mem_append.1 hb with hb | hb
      · exact ih _ (by omega) b hb
      · simp at hb; subst hb; simp [UInt8.toNat_ofNat']; omega
def valD (l : List UInt8) : Nat := l.foldl (fun a b => a * 10 + (b.toNat - 48)) 0
theorem valD_dec : ∀ (u : Nat), valD (decDigits u) = u := by
  intro u
  induction u using Nat.strongRecOn with
  | ind u ih =>
    rw [decDigits]
    split
    · simp [valD, UInt8.toNat_ofNat']; omega
    · have h := ih (u / 10) (by omega)
      unfold valD at h ⊢
      rw [List.foldl_append, h]
      simp [UInt8.toNat_ofNat']; omega
def okN (n : Int) : Prop := 0 ≤ n ∧ n ≤ 1000
theorem itoa_dec {n : Int} (h : 0 ≤ n) : itoa n = decDigits n.toNat := by unfold itoa; rw [if_neg (by omega)]
theorem itoa_inj {a b : Int} (ha : 0 ≤ a) (hb : 0 ≤ b) (h : itoa a = itoa b) : a = b := by
  rw [itoa_dec ha, itoa_dec hb] at h
  have := congrArg valD h
  rw [valD_dec, valD_dec] at this
  omega
theorem itoa_no {n : Int} (h : 0 ≤ n) {c : UInt8} (hc : c.toNat < 48 ∨ 57 < c.toNat) : c ∉ itoa n := by
  intro hm
  rw [itoa_dec h] at hm
  have := dec_digits _ c hm
  omega
theorem itoa_ne {n : Int} (h : 0 ≤ n) : itoa n ≠ [] := by
  rw [itoa_dec h, decDigits]
  split <;> simp
set_option maxRecDepth 100000 in
theorem parse_all : ((List.range 1001).all fun v => decide (parseIntB 64 (decDigits v) = .ok (v : Int))) = true := by decide +kernel
theorem parse_itoa {n : Int} (h : okN n) : parseIntB 64 (itoa n) = .ok n := by
  rw [itoa_dec h.1]
  have := List.all_eq_true.1 parse_all n.toNat (List.mem_range.2 (by have := h.2; omega))
  have e := of_decide_eq_true this
  rw [e, Int.toNat_of_nonneg h.1]
set_option maxRecDepth 100000 in
theorem len_all : ((List.range 1001).all fun v => decide ((decDigits v).length ≤ 4)) = true := by decide +kernel
theorem len_itoa {n : Int} (h : okN n) : (itoa n).length ≤ 4 := by
  rw [itoa_dec h.1]
  exact of_decide_eq_true (List.all_eq_true.1 len_all n.toNat (List.mem_range.2 (by have := h.2; omega)))

/-! ### Cut at a byte -/
def joinC (c : UInt8) : List (List UInt8) → List UInt8
  | [] => []
  | [x] => x
  | x :: y :: l => x ++ c :: joinC c (y :: l)
theorem joinC_cons (c : UInt8) (x : List UInt8) (l : List (List UInt8)) (h : l ≠ []) : joinC c (x :: l) = x ++ c :: joinC c l := by
  cases l with
  | nil => exact absurd rfl h
  | cons y l => rfl
theorem cut_inj {c : UInt8} : ∀ {x y a b : List UInt8}, c ∉ x → c ∉ y → x ++ c :: a = y ++ c :: b → x = y ∧ a = b
  | [], [], a, b, _, _, h => by simpa using h
  | [], y :: ys, a, b, _, hy, h => by
    simp at h; exact absurd h.1 (fun e => hy (by rw [e]; simp))
  | x :: xs, [], a, b, hx, _, h => by
    simp at h; exact absurd h.1 (fun e => hx (by rw [← e]; simp))
  | x :: xs, y :: ys, a, b, hx, hy, h => by
    simp only [List.cons_append, List.cons.injEq] at h
    obtain ⟨h1, h2⟩ := cut_inj (fun e => hx (List.mem_cons_of_mem _ e)) (fun e => hy (List.mem_cons_of_mem _ e)) h.2
    exact ⟨by rw [h.1, h1], h2⟩
theorem joinC_inj {c : UInt8} : ∀ {P Q : List (List UInt8)}, P ≠ [] → Q ≠ [] → (∀ x ∈ P, c ∉ x) → (∀ x ∈ Q, c ∉ x) → joinC c P = joinC c Q → P = Q
  | [], _, h, _, _, _, _ => absurd rfl h
  | _, [], _, h, _, _, _ => absurd rfl h
  | [x], [y], _, _, _, _, h => by simp [joinC] at h; rw [h]
  | [x], y :: z :: l, _, _, hP, _, h => by
    rw [joinC_cons c y (z :: l) (by simp)] at h
    exact absurd (show c ∈ x by rw [show x = y ++ c :: joinC c (z :: l) from h]; simp) (hP x (by simp))
  | x :: z :: l, [y], _, _, _, hQ, h => by
    rw [joinC_cons c x (z :: l) (by simp)] at h
    exact absurd (show c ∈ y by rw [show y = x ++ c :: joinC c (z :: l) from h.symm]; simp) (hQ y (by simp))
  | x :: a :: l, y :: b :: m, _, _, hP, hQ, h => by
    rw [joinC_cons c x _ (by simp), joinC_cons c y _ (by simp)] at h
    obtain ⟨h1, h2⟩ := cut_inj (hP x (by simp)) (hQ y (by simp)) h
    rw [h1, joinC_inj (by simp) (by simp) (fun z hz => hP z (List.mem_cons_of_mem _ hz)) (fun z hz => hQ z (List.mem_cons_of_mem _ hz)) h2]
theorem splitK_spec (c : UInt8) : ∀ (k : Nat) (s : List UInt8), count s [c] = k → splitK [c] 0 k s ≠ [] ∧ joinC c (splitK [c] 0 k s) = s ∧ ∀ x ∈ splitK [c] 0 k s, c ∉ x
  | 0, s, h => by
    have hi : index s [c] = -1 := by
      rcases index_spec s [c] with ⟨h1, _⟩ | ⟨i, h1, _⟩
      · exact h1
      · rw [count_hit (by simp) h1] at h; omega
    rw [index_one] at hi
    refine ⟨by simp [splitK], by simp [splitK, joinC], fun x hx => ?_⟩
    simp [splitK] at hx
    subst hx
    intro hm
    obtain ⟨j, hj, e⟩ := List.getElem_of_mem hm
    exact indexByte_none hi j (by rw [List.getElem?_eq_getElem hj, e])
  | k + 1, s, h => by
    rcases index_spec s [c] with ⟨h1, _⟩ | ⟨i, h1, _⟩
    · rw [count_miss h1] at h; omega
    · have hc := count_hit (sub := [c]) (by simp) h1
      have h1' := h1
      rw [index_one] at h1'
      obtain ⟨hs, hno⟩ := indexByte_some h1'
      obtain ⟨hil, hsi⟩ := List.getElem?_eq_some_iff.1 hs
      have hk : count (s.drop (i + [c].length)) [c] = k := by omega
      obtain ⟨r1, r2, r3⟩ := splitK_spec c k _ hk
      have e : splitK [c] 0 (k + 1) s = s.take i :: splitK [c] 0 k (s.drop (i + [c].length)) := by
        rw [splitK, if_neg (by rw [beq_iff_eq]; omega), h1]
        simp
      rw [e]
      refine ⟨by simp, ?_, ?_⟩
      · rw [joinC_cons c _ _ r1, r2]
        conv => rhs; rw [← List.take_append_drop i s]
        rw [List.drop_eq_getElem_cons hil, hsi]
        rfl
      · intro x hx
        rcases List.mem_cons.1 hx with rfl | hx
        · intro hm
          obtain ⟨j, hj, ej⟩ := List.getElem_of_mem hm
          have hj' : j < i := by simp at hj; omega
          refine hno j hj' ?_
          rw [List.getElem_take] at ej
          rw [List.getElem?_eq_getElem (by omega), ej]
        · exact r3 x hx

/-! ### A policy's text -/
def sgn : Nat → UInt8
  | 0 => 100
  | 1 => 119
  | 2 => 109
  | _ => 121
def part (p : Pol) (i : Nat) : List UInt8 := itoa (p.num i) ++ [sgn i]
def parts (p : Pol) : List (List UInt8) := [part p 0, part p 1, part p 2, part p 3]
def txtL (p : Pol) : List UInt8 := joinC 32 (parts p)
def txt (p : Pol) : ByteArray := ⟨(txtL p).toArray⟩
theorem chk_num {p : Pol} (h : p.chk = 0) (i : Nat) : okN (p.num i) := by
  unfold Pol.chk polChk at h
  split at h
  · cases h
  · rcases i with _ | _ | _ | i
    · show okN p.d; unfold okN; omega
    · show okN p.k; unfold okN; omega
    · show okN p.m; unfold okN; omega
    · show okN p.y; unfold okN; omega
theorem sgn_no (i : Nat) : 57 < (sgn i).toNat := by unfold sgn; split <;> decide
theorem part_no {p : Pol} (h : p.chk = 0) (i : Nat) : (32 : UInt8) ∉ part p i := by
  intro hm
  rcases List.mem_append.1 hm with hm | hm
  · exact itoa_no (chk_num h i).1 (.inl (by decide)) hm
  · rw [List.mem_singleton] at hm
    have := sgn_no i
    rw [← hm] at this
    exact absurd this (by decide)
theorem parts_no {p : Pol} (h : p.chk = 0) : ∀ x ∈ parts p, (32 : UInt8) ∉ x := by
  intro x hx
  simp [parts] at hx
  rcases hx with rfl | rfl | rfl | rfl <;> exact part_no h _
theorem part_inj {p q : Pol} (hp : p.chk = 0) (hq : q.chk = 0) {i : Nat} (h : part p i = part q i) : p.num i = q.num i := by
  unfold part at h
  exact itoa_inj (chk_num hp i).1 (chk_num hq i).1 (List.append_cancel_right h)
theorem txtL_inj {p q : Pol} (hp : p.chk = 0) (hq : q.chk = 0) (h : txtL p = txtL q) : p = q := by
  have := joinC_inj (by simp [parts]) (by simp [parts]) (parts_no hp) (parts_no hq) h
  simp only [parts, List.cons.injEq, and_true] at this
  obtain ⟨h0, h1, h2, h3⟩ := this
  have e0 := part_inj hp hq h0; have e1 := part_inj hp hq h1; have e2 := part_inj hp hq h2; have e3 := part_inj hp hq h3
  cases p; cases q
  simp [Pol.num] at e0 e1 e2 e3
  simp [e0, e1, e2, e3]
theorem txtL_ne {p : Pol} : txtL p ≠ [] := by simp [txtL, parts, joinC, part]
theorem txtL_len {p : Pol} (h : p.chk = 0) : (txtL p).length ≤ 23 := by
  have h0 := len_itoa (chk_num h 0); have h1 := len_itoa (chk_num h 1); have h2 := len_itoa (chk_num h 2); have h3 := len_itoa (chk_num h 3)
  simp [txtL, parts, joinC, part]
  omega
theorem split_txt {p : Pol} (h : p.chk = 0) {s : List UInt8} (hs : s = txtL p) : splitK [32] 0 (count s [32]) s = parts p := by
  obtain ⟨h1, h2, h3⟩ := splitK_spec 32 _ s rfl
  exact joinC_inj h1 (by simp [parts]) h3 (parts_no h) (by rw [h2, hs]; rfl)
theorem txt_of_split {p : Pol} {s : List UInt8} (h : splitK [32] 0 (count s [32]) s = parts p) : s = txtL p := by
  obtain ⟨h1, h2, h3⟩ := splitK_spec 32 _ s rfl
  rw [h] at h2
  exact h2.symm
theorem ba_ext {a b : ByteArray} (h : a.data.toList = b.data.toList) : a = b := by
  cases a with | mk a => cases b with | mk b => simp at h; rw [h]

/-- What policy.Of tells of a text. -/
def OfSays (s : ByteArray) (q : Pol) (e : Int) : Prop := (e = 0 ∧ q.chk = 0 ∧ s.data.toList = txtL q) ∨ (e = 3 ∧ q = ⟨0, 0, 0, 0⟩ ∧ ∀ p : Pol, p.chk = 0 → s.data.toList ≠ txtL p)
theorem ofSays_one {s : ByteArray} {q q' : Pol} {e e' : Int} (h : OfSays s q e) (h' : OfSays s q' e') : q = q' ∧ e = e' := by
  rcases h with ⟨h1, h2, h3⟩ | ⟨h1, h2, h3⟩ <;> rcases h' with ⟨k1, k2, k3⟩ | ⟨k1, k2, k3⟩
  · exact ⟨txtL_inj h2 k2 (h3.symm.trans k3), by rw [h1, k1]⟩
  · exact absurd h3 (k3 q h2)
  · exact absurd k3 (h3 q' k2)
  · exact ⟨by rw [h2, k2], by rw [h1, k1]⟩
/-- What num.Int tells of a text. -/
def IntSays (s : ByteArray) (v : Int) (b : Bool) : Prop := (b = true ∧ s.data.toList = itoa v) ∨ (b = false ∧ ∀ u, okN u → s.data.toList ≠ itoa u)

/-! ### The document's way: number by number -/
def tailL (p : Pol) : Nat → List UInt8
  | 0 => txtL p
  | 1 => joinC 32 [part p 1, part p 2, part p 3]
  | 2 => joinC 32 [part p 2, part p 3]
  | 3 => part p 3
  | _ => []
theorem tailL_step (p : Pol) (i : Nat) (h : i < 3) : tailL p i = itoa (p.num i) ++ sgn i :: 32 :: tailL p (i + 1) := by
  rcases (show i = 0 ∨ i = 1 ∨ i = 2 by omega) with rfl | rfl | rfl <;> simp [tailL, txtL, parts, joinC, part]
theorem tailL_last (p : Pol) : tailL p 3 = itoa (p.num 3) ++ sgn 3 :: tailL p 4 := by simp [tailL, part]
/-- What the document's 'number' tells. -/
def NumSays (s : List UInt8) (c : UInt8) (n : Int) (rest : List UInt8) (ok : Bool) : Prop := (ok = true ∧ okN n ∧ s = itoa n ++ c :: rest) ∨ (ok = false ∧ ∀ u t, okN u → s ≠ itoa u ++ c :: t)
theorem numSays_at {s : List UInt8} {c : UInt8} {n : Int} {rest : List UInt8} {ok : Bool} (h : NumSays s c n rest ok) (hc : 57 < c.toNat) {u : Int} (hu : okN u) {t : List UInt8} (hs : s = itoa u ++ c :: t) : ok = true ∧ n = u ∧ rest = t := by
  rcases h with ⟨h1, h2, h3⟩ | ⟨h1, h2⟩
  · obtain ⟨a, b⟩ := cut_inj (itoa_no h2.1 (.inr hc)) (itoa_no hu.1 (.inr hc)) (h3.symm.trans hs)
    exact ⟨h1, itoa_inj h2.1 hu.1 a, b⟩
  · exact absurd hs (h2 u t hu)

end Go.Proofs.YtgelaffifjicoaaGreatDoor
