/-
  PLAIN LAW: what may go behind a hold is what might go ahead of it, without at most one snapshot of that machine.
-/
import Derived.Test.YtfjlhcapkfcpkaaPlain
import Derived.Test.YtfjlhcapkfcpkaaLater
namespace Go.Proofs.Ytfjlhcapkfcpkaa
open Go.RowKit
set_option linter.unusedSimpArgs false
set_option linter.unusedVariables false

/-- The second list is the first one, without at most one of machine m. -/
def Beside (m : ByteArray) (A B : List Ref) : Prop := A = B ∨ ∃ a y b, A = a ++ y :: b ∧ B = a ++ b ∧ y.m = m
theorem beside_nil {m : ByteArray} {c : Ref} {B : List Ref} (h : Beside m [] (c :: B)) : False := by
  rcases h with h | ⟨a, y, b, h, _⟩
  · cases h
  · cases a <;> cases h
theorem beside_step {m : ByteArray} {c : Ref} {A B : List Ref} (h : Beside m (c :: A) (c :: B)) : Beside m A B := by
  rcases h with h | ⟨a, y, b, h1, h2, h3⟩
  · injection h with _ h; exact .inl h
  · cases a with
    | nil =>
      simp only [List.nil_append, List.cons.injEq] at h1 h2
      obtain ⟨rfl, rfl⟩ := h1
      exact .inr ⟨[], c, B, h2.symm, rfl, h3⟩
    | cons d a =>
      simp only [List.cons_append, List.cons.injEq] at h1 h2
      exact .inr ⟨a, y, b, h1.2, h2.2, h3⟩
theorem beside_skip {m : ByteArray} {c d : Ref} {A B : List Ref} (h : Beside m (c :: A) (d :: B)) (hne : c ≠ d) : c.m = m ∧ Beside m A (d :: B) := by
  rcases h with h | ⟨a, y, b, h1, h2, h3⟩
  · injection h with h _; exact absurd h hne
  · cases a with
    | nil =>
      simp only [List.nil_append, List.cons.injEq] at h1 h2
      obtain ⟨rfl, rfl⟩ := h1
      exact ⟨h3, .inl h2.symm⟩
    | cons e a =>
      simp only [List.cons_append, List.cons.injEq] at h1 h2
      exact absurd (h1.1.trans h2.1.symm) hne
theorem beside_end {m : ByteArray} {c : Ref} {A : List Ref} (h : Beside m (c :: A) []) : c.m = m ∧ Beside m A [] := by
  rcases h with h | ⟨a, y, b, h1, h2, h3⟩
  · cases h
  · cases a with
    | nil =>
      simp only [List.nil_append, List.cons.injEq] at h1 h2
      obtain ⟨rfl, rfl⟩ := h1
      exact ⟨h3, .inl h2.symm⟩
    | cons e a => cases h2
theorem beside_len {m : ByteArray} {A B : List Ref} (h : Beside m A B) : B.length ≤ A.length := by
  rcases h with rfl | ⟨a, y, b, rfl, rfl, _⟩
  · exact Nat.le_refl _
  · simp

theorem modify_split {α : Type} (f : α → α) : ∀ (l : List α) (k : Nat) (x : α), l[k]? = some x → ∃ a b, l = a ++ x :: b ∧ l.modify k f = a ++ f x :: b
  | [], k, x, h => by simp at h
  | y :: l, 0, x, h => by
    simp at h; subst h
    exact ⟨[], l, rfl, rfl⟩
  | y :: l, k + 1, x, h => by
    obtain ⟨a, b, h1, h2⟩ := modify_split f l k x (by simpa using h)
    exact ⟨y :: a, b, by rw [h1]; rfl, by rw [List.modify_succ_cons, h2]; rfl⟩
theorem setRow_split (r : Root) (mach : ByteArray) (n u : Int) (h : r.setErr mach n u = 0) :
    ∃ a y b, r.refs = a ++ y :: b ∧ r.setRow mach n u = a ++ { y with u := u } :: b ∧ y.m = mach ∧ y.n = n ∧ r.now < u ∧ y.u ≤ u := by
  obtain ⟨k, y, hk, hy, hu, hyu⟩ := setErr_cases r mach n u h
  obtain ⟨a, b, h1, h2⟩ := modify_split (fun x : Ref => { x with u := u }) r.refs k y hy
  have hrow : r.setRow mach n u = r.refs.modify k fun x => { x with u := u } := by unfold Root.setRow; rw [hk]
  obtain ⟨hlt, hhit, _⟩ := List.findIdx?_eq_some_iff_getElem.1 hk
  have hyk : r.refs[k] = y := by rw [List.getElem?_eq_getElem hlt] at hy; injection hy
  rw [hyk] at hhit
  unfold hit at hhit
  simp only [Bool.and_eq_true, decide_eq_true_eq, beq_iff_eq] at hhit
  exact ⟨a, y, b, h1, hrow.trans h2, hhit.1, hhit.2, by omega, by omega⟩
theorem setRow_one (r : Root) (mach : ByteArray) (n u : Int) (h : r.setErr mach n u = 0) : (r.setRow mach n u).map Ref.one = r.refs.map Ref.one := by
  obtain ⟨a, y, b, h1, h2, _⟩ := setRow_split r mach n u h
  rw [h1, h2]; simp [Ref.one]
theorem keepB_one (p : Pol) (now : Int) (l l' : List Ref) (h : l'.map Ref.one = l.map Ref.one) (x : Ref) : keepB p now l' x = keepB p now l x := by
  unfold keepB; rw [h]
/-- What may go behind a hold that was set. -/
theorem held_beside (r : Root) (mach : ByteArray) (n u : Int) (g cap : Nat) (h : r.setErr mach n u = 0) : Beside mach r.gone (r.held mach n u g cap).gone := by
  obtain ⟨a, y, b, h1, h2, hm, _, hnow, _⟩ := setRow_split r mach n u h
  have hone := setRow_one r mach n u h
  rw [gone_eq, gone_eq]
  show Beside mach (r.refs.filter fun x => !keepB r.pol r.now r.refs x) ((r.setRow mach n u).filter fun x => !keepB r.pol r.now (r.setRow mach n u) x)
  have he : (fun x => !keepB r.pol r.now (r.setRow mach n u) x) = fun x => !keepB r.pol r.now r.refs x := by
    funext x; rw [keepB_one _ _ _ _ hone]
  rw [he]
  have hk : keepB r.pol r.now r.refs { y with u := u } = true := by unfold keepB; simp [hnow]
  generalize hf : (fun x => !keepB r.pol r.now r.refs x) = f
  have hf1 : f { y with u := u } = false := by rw [← hf]; simp [hk]
  rw [h1, h2, List.filter_append, List.filter_append, List.filter_cons, List.filter_cons, hf1]
  by_cases hy : f y
  · rw [if_pos hy]
    exact .inr ⟨_, y, _, rfl, by simp, hm⟩
  · rw [if_neg hy]
    exact .inl (by simp)

end Go.Proofs.Ytfjlhcapkfcpkaa
