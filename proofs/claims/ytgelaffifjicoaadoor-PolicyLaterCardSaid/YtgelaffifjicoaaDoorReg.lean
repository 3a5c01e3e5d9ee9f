/-
  A REGION THAT DRAWS ITS ORDER, BY AN INVARIANT: what holds of the operations that have come up, of the slots and of the world; one goal an operation, whatever the orders.
-/
import Derived.ProofKit
import Derived.Orders
import Derived.Test.YtgelaffifjicoaaDoorSmall
namespace Go.Proofs.YtgelaffifjicoaaDoor
open Go.RowKit
set_option linter.unusedSimpArgs false
set_option linter.unusedVariables false

section
variable {P : Program} {ops : Array Oper} {Q : Exit → Act → World → Prop} {md : Region.Mode}

theorem unlisted_lt {listed : Array Bool} {i : Nat} (h : listed.getD i true = false) : ∃ h : i < listed.size, listed[i] = false := by
  by_cases hi : i < listed.size
  · refine ⟨hi, ?_⟩
    simpa [hi] using h
  · simp [Array.getElem?_eq_none (by omega : listed.size ≤ i)] at h
theorem ready_none {listed : Array Bool} (h : listed.toList.count false = 0) : Region.ready md ops listed = [] := by
  rw [List.eq_nil_iff_forall_not_mem]
  intro i hi
  obtain ⟨h1, _⟩ := mem_ready.1 hi
  obtain ⟨hi, h2⟩ := unlisted_lt h1
  rw [List.count_eq_zero] at h
  exact h (by rw [← h2]; simp)
theorem count_listed {listed : Array Bool} {i f : Nat} (h : listed.getD i true = false) (hc : listed.toList.count false ≤ f + 1) : (listed.setIfInBounds i true).toList.count false ≤ f := by
  obtain ⟨hi, h2⟩ := unlisted_lt h
  rw [Array.toList_setIfInBounds, List.count_set (by simpa using hi)]
  have e1 : (listed.toList[i]'(by simpa using hi)) = false := by simpa using h2
  rw [e1, if_pos (by decide), if_neg (by decide)]
  omega

theorem wpAny_inv (I : Array Bool → Act → World → Prop)
    (hstep : ∀ (listed : Array Bool) (a : Act) (w : World), listed.size = ops.size → I listed a w → ∀ i ∈ Region.ready md ops listed, wpOp P ops Q i (I (listed.setIfInBounds i true)) a w)
    (hend : ∀ (listed : Array Bool) (a : Act) (w : World), listed.size = ops.size → I listed a w → Region.ready md ops listed = [] → Q .normal a w) :
    ∀ (f : Nat) (listed : Array Bool) (a : Act) (w : World), listed.size = ops.size → listed.toList.count false ≤ f → I listed a w → wpAny P md ops Q f listed a w
  | 0, listed, a, w, hs, hc, h => by
    have hr : Region.ready md ops listed = [] := ready_none (by omega)
    exact ⟨hr, hend _ _ _ hs h hr⟩
  | f + 1, listed, a, w, hs, hc, h =>
    ⟨fun hr => hend _ _ _ hs h hr, fun i hi => wpOp_mono (fun a' w' h' => wpAny_inv I hstep hend f _ a' w' (by simpa using hs) (count_listed (mem_ready.1 hi).1 hc) h') (hstep _ _ _ hs h i hi)⟩

theorem wp_region_inv {id : Nat} {a : Act} {w : World} (hm : P.follows .mixedOrders = true) (I : Array Bool → Act → World → Prop)
    (h0 : I (Array.replicate ops.size false) a w.drew)
    (hstep : ∀ (listed : Array Bool) (a : Act) (w : World), listed.size = ops.size → I listed a w → ∀ i ∈ Region.ready .any ops listed, wpOp P ops Q i (I (listed.setIfInBounds i true)) a w)
    (hend : ∀ (listed : Array Bool) (a : Act) (w : World), listed.size = ops.size → I listed a w → Region.ready .any ops listed = [] → Q .normal a w) :
    (Code.region id ops true).wp P Q a w :=
  wp_region_any hm (wpAny_inv I hstep hend ops.size _ a _ (by simp) (by simp [List.count_replicate]) h0)

theorem Oper.wp_then {o : Oper} {a : Act} {w : World} {K : Act → World → Prop} (h : o.wp P a w K (Exit.then K Q)) : o.wp P a w K Q := by
  unfold Oper.wp at *
  generalize (execOp a.eval o).run P w = r at *
  cases r with
  | ok n w' =>
    cases n <;> simp only [Oper.upon] at h ⊢ <;>
      first
        | exact h
        | (refine Calls.mono h fun e w'' he => ?_; cases e with
            | returned v => exact he
            | panicked c => exact he
            | outgrown => obtain ⟨a, w, h⟩ := he; exact ⟨a, w, h⟩)
  | halt x w' => cases x <;> simp only [Oper.upon] at h ⊢ <;> exact h
/-- One operation, by the walk of a list of one. -/
theorem wpOp_one {i : Nat} {o : Oper} {K : Act → World → Prop} {a : Act} {w : World} (hi : ops[i]? = some o) (h : wpList P ops (Exit.then K Q) [o] a w) : wpOp P ops Q i K a w := by
  unfold wpOp
  simp only [hi]
  unfold wpList at h
  split
  · rename_i hw
    rw [if_pos hw] at h
    rcases h with h | h
    · exact .inl (Oper.wp_then h)
    · exact .inr ⟨h.1, by obtain ⟨a, w, h⟩ := h.2; exact ⟨a, w, h⟩⟩
  · rename_i hw
    rw [if_neg hw] at h
    exact h
/-- What has come up stands behind what it waits for. -/
theorem ready_after {listed : Array Bool} {i j : Nat} {o : Oper} (h : i ∈ Region.ready md ops listed) (ho : ops[i]? = some o) (hj : (o.after.any fun e => Region.binds md e && e.on == j) = true) : listed.getD j false = true := by
  obtain ⟨_, o', ho', hall⟩ := mem_ready.1 h
  obtain rfl : o = o' := Option.some.inj (ho.symm.trans ho')
  obtain ⟨e, he, hb⟩ := Array.any_eq_true'.1 hj
  simp only [Bool.and_eq_true, beq_iff_eq] at hb
  have := hall e he hb.1
  rwa [hb.2] at this
/-- At the end all has come up: number i has, as what it waits for has. -/
theorem ended {listed : Array Bool} {i : Nat} {o : Oper} (hr : Region.ready md ops listed = []) (hs : listed.size = ops.size) (ho : ops[i]? = some o) (h : ∀ e ∈ o.after, Region.binds md e = true → listed.getD e.on false = true) : listed.getD i false = true := by
  cases hl : listed.getD i false with
  | true => rfl
  | false =>
    have hi : i < ops.size := (Array.getElem?_eq_some_iff.1 ho).1
    have : i ∈ Region.ready md ops listed := mem_ready.2 ⟨by simp [show i < listed.size by omega] at hl ⊢; exact hl, o, ho, h⟩
    rw [hr] at this
    cases this
/-- At the end all have come up, where each waits for earlier ones alone. -/
theorem ended_all {listed : Array Bool} (hr : Region.ready md ops listed = []) (hs : listed.size = ops.size)
    (hq : ((List.range ops.size).all fun i => ((ops[i]?).map fun o => o.after.toList.all fun e => decide (e.on < i)).getD true) = true) : ∀ i, i < ops.size → listed.getD i false = true := by
  intro i
  induction i using Nat.strongRecOn with
  | ind i ih =>
    intro hi
    have h := List.all_eq_true.1 hq i (List.mem_range.2 hi)
    rw [Array.getElem?_eq_getElem hi] at h
    simp only [Option.map_some, Option.getD_some, List.all_eq_true, decide_eq_true_eq] at h
    refine ended hr hs (Array.getElem?_eq_getElem hi) (fun e he _ => ?_)
    have := h e (Array.mem_toList_iff.2 he)
    exact ih _ this (by omega)
theorem getD_put (L : Array Bool) (i j : Nat) (hi : i < L.size) : (L.setIfInBounds i true).getD j false = (decide (i = j) || L.getD j false) := by
  by_cases h : i = j
  · subst h; simp [hi]
  · have : (L.setIfInBounds i true)[j]? = L[j]? := by simp [Array.getElem?_setIfInBounds, h]
    simp [Array.getD_eq_getD_getElem?, this, h]
theorem getD_none (n j : Nat) : (Array.replicate n false).getD j false = false := by
  by_cases h : j < n <;> simp [h]
theorem unlisted_false {listed : Array Bool} {i : Nat} (h : i ∈ Region.ready md ops listed) : listed.getD i false = false := by
  obtain ⟨hi, h2⟩ := unlisted_lt (mem_ready.1 h).1
  simp [hi, h2]
end

end Go.Proofs.YtgelaffifjicoaaDoor
