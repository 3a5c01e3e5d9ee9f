/-
  A SLICE OF STRUCTS THAT THE CALL HAS BUILT, SORTED BY THE LIBRARY: between 'ownsRow' and the sort's words, at elements of k cells.
-/
import Derived.Shelf.GgSortFunc.InsertionK
import Derived.Sort.OwnSorted
import Derived.Below
namespace Go.Proofs.YtgelaffifjicoaaGreatDoor
open Go.RowKit Go.Sort Go.Proofs
set_option linter.unusedSimpArgs false
set_option linter.unusedVariables false

section
variable {α : Type} [Inhabited α] {enc : α → List Value} {k : Nat}

theorem flatK_list (hk : ∀ x, (enc x).length = k) (l : List α) : (flatK enc k l.toArray).toList = l.flatMap enc := by
  have hlen : (l.flatMap enc).length = l.length * k := by
    induction l with
    | nil => simp
    | cons x l ih => simp [hk, ih, Nat.add_mul, Nat.add_comm]
  apply List.ext_getElem (by simp [hlen])
  intro t h1 h2
  have ht : t < l.length * k := by simpa using h1
  have k0 : 0 < k := by rcases Nat.eq_zero_or_pos k with h | h; · subst h; simp at ht
                        · exact h
  have key : ∀ (l : List α) (t : Nat), t < l.length * k → (l.flatMap enc)[t]? = some ((enc l[t / k]!)[t % k]!) := by
    intro l
    induction l with
    | nil => intro t h; simp at h
    | cons x l ih =>
      intro t h
      rw [List.flatMap_cons]
      by_cases c : t < k
      · rw [List.getElem?_append_left (by rw [hk]; exact c), Nat.div_eq_of_lt c, Nat.mod_eq_of_lt c]
        have : t < (enc x).length := by rw [hk]; exact c
        simp [List.getElem?_eq_getElem this, this]
      · rw [List.getElem?_append_right (by rw [hk]; omega), hk, ih (t - k) (by rw [List.length_cons, Nat.add_mul] at h; omega)]
        have e1 : t / k = (t - k) / k + 1 := by rw [Nat.div_eq_sub_div k0 (by omega)]
        have e2 : t % k = (t - k) % k := by rw [Nat.mod_eq_sub_mod (by omega)]
        rw [e1, e2]
        simp
  have := key l t ht
  rw [List.getElem?_eq_getElem h2] at this
  have e3 : (flatK enc k l.toArray).toList[t]'h1 = (flatK enc k l.toArray)[t]! := by simp [ht]
  rw [e3, get_flatK _ _ _ _ (by simpa using ht)]
  simpa using (Option.some.inj this).symm

theorem holdsK_of_block (hk : ∀ x, (enc x).length = k) {w : World} {g : Nat} {cur : Array Value} {e : TypeId} {ss : List α} (hb : w.heap[g]? = some (.cells cur e (0, 0))) (ht : cur.toList.take (ss.length * k) = ss.flatMap enc) : HoldsK enc k w g 0 ss.toArray := by
  intro j hj
  have hj' : j < ss.length * k := by simpa using hj
  refine ⟨?_, by simp [World.frozen?, hb]⟩
  have h1 : (cur.toList.take (ss.length * k))[j]? = (ss.flatMap enc)[j]? := by rw [ht]
  rw [List.getElem?_take_of_lt hj'] at h1
  simp only [World.cell?, hb, Nat.zero_add]
  simp only [Option.isSome_none, Bool.false_eq_true, if_false]
  rw [← Array.getElem?_toList, h1, ← flatK_list hk, Array.getElem?_toList]
  rw [Array.getElem?_eq_getElem hj, getElem!_pos _ j hj]
  rfl

theorem heap_sortedK {w : World} {g n : Nat} {os : Array Obj} {cur : Array Value} {e : TypeId} {fr : Nat × Nat} (d : Array α) (hb : w.heap[g]? = some (.cells cur e fr)) :
    (sortWorldK enc k w g 0 n d os).heap[g]? = some (.cells (putCells id 0 (flatK enc k d) cur) e fr) := by
  have hg : g < w.heap.size := (Array.getElem?_eq_some_iff.1 hb).1
  unfold sortWorldK putRowK
  rw [heap_grow_old _ _ (by simpa using hg)]
  simp [putRow, mapBlock, Sort.ahead, Array.getElem?_modify, hb, onCells]

theorem grownBy_sortedK {w : World} {g n : Nat} {os : Array Obj} (d : Array α) : w.grownBy (sortWorldK enc k w g 0 n d os) (some g) := by
  refine ⟨rfl, rfl, rfl, by simp [sortWorldK, putRowK], fun j hk hne => ?_⟩
  unfold sortWorldK putRowK
  rw [heap_grow_old _ _ (by simpa using hk)]
  have : g ≠ j := fun e => hne (by rw [e])
  simp [putRow, mapBlock, Sort.ahead, Array.getElem?_modify, this]

theorem take_putCellsK (hk : ∀ x, (enc x).length = k) (cur : Array Value) (ts : List α) (h : ts.length * k ≤ cur.size) : (putCells id 0 (flatK enc k ts.toArray) cur).toList.take (ts.length * k) = ts.flatMap enc := by
  rw [← flatK_list hk]
  apply List.ext_getElem?
  intro j
  by_cases hj : j < ts.length * k
  · rw [List.getElem?_take_of_lt hj, Array.getElem?_toList, Array.getElem?_toList]
    have hs : j < (flatK enc k ts.toArray).size := by simpa using hj
    simp [putCells, hj, show j < cur.size by omega, hs]
  · rw [List.getElem?_take_eq_none (by omega), List.getElem?_eq_none (by simp; omega)]

/-- BEHIND THE SORT the same slice owns the sorted list. -/
theorem ownsRow_sortedK (hk : ∀ x, (enc x).length = k) {w : World} {base g cap n : Nat} {e : TypeId} {os : Array Obj} {cur : Array Value} {ss ts : List α} (hl : ts.length = ss.length) (hbase : base ≤ g) (hb : w.heap[g]? = some (.cells cur e (0, 0)))
    (h1 : ss.length ≤ cap) (h2 : cap ≤ maxLen) (h3 : cur.size = cap * k) :
    (sortWorldK enc k w g 0 n ts.toArray os).ownsRow base e k (.slice (some ⟨g, 0, none⟩) ss.length cap) ss.length (ts.flatMap enc) := by
  have hc : ts.length * k ≤ cur.size := by rw [h3, hl]; exact Nat.mul_le_mul_right _ h1
  have ht := take_putCellsK hk cur ts hc
  refine ⟨?_, .inr ⟨g, cap, _, rfl, hbase, heap_sortedK _ hb, h1, h2, by simp [putCells, h3], by rw [← hl]; exact ht⟩⟩
  rw [← ht, List.length_take, hl]
  simp [putCells]
  rw [hl] at hc
  omega

end
end Go.Proofs.YtgelaffifjicoaaGreatDoor
