/-
  SETS THAT THE CALL KEEPS AS map[K]bool WITH true ALONE: the map's block reads as the list of what is in it.
-/
import Derived.Test.YtgelaffifjicoaaGreatDoorRows
import Derived.Test.YtgelaffifjicoaaGreatDoorWords
import Derived.Maps.OwnSet
import Derived.Maps.Views
import Derived.DeepKeys4
import Derived.MapKept
namespace Go.Proofs.YtgelaffifjicoaaGreatDoor
open Go.RowKit Go.Maps Go.WideMaps Go.ChangeMaps Go.WideElems Go.WideShapes Go.MapKept
set_option linter.unusedSimpArgs false
set_option linter.unusedVariables false

theorem plainElem_bool_inv {H : Type} {P : Program} {e : TypeId} (he : P.underlying e = some .bool) {v : Value} {z : DataW H × List MemPlace} (h : plainElem P e v = some z) : ∃ x, v = .bool x ∧ z = (.lit (.bool x), []) := by
  unfold plainElem at h
  rw [he] at h
  cases v <;> simp at h
  exact ⟨_, rfl, h.symm⟩

section
variable {α : Type} [DecidableEq α]

/-- How elements of α are keys of type k: their values, which of them may be, what they read as. -/
structure KeyOf (k : TypeId) (f : α → Value) (dom : α → Prop) (kl : α → Lit) : Prop where
  law : Keyed Tryz.prog k
  key : ∀ x, dom x → keyOf Tryz.prog k (f x) = some (kl x)
  inj : ∀ x y, f x = f y → x = y

/-- Block b is a map[k]bool in which just the elements of S stand, each true. -/
def Marks (k : TypeId) (dom : α → Prop) (kl : α → Lit) (w : World) (b n : Nat) (S : List α) : Prop :=
  ∃ D : DataW Unit, w.ownsMap Tryz.prog k (plainElem Tryz.prog 4) b n D ∧ S.Nodup ∧ (∀ x ∈ S, dom x) ∧ Maps.size D = S.length ∧
    ∀ x, dom x → D.atKey (kl x) (.lit (.bool false)) = .lit (.bool (decide (x ∈ S))) ∧ Maps.has D (kl x) = decide (x ∈ S)

variable {k : TypeId} {f : α → Value} {dom : α → Prop} {kl : α → Lit} {w w' : World} {b n : Nat} {S : List α}

theorem Marks.made (w : World) (k : TypeId) (dom : α → Prop) (kl : α → Lit) : Marks k dom kl (w.alloc (.map #[] 0)) w.heap.size 0 ([] : List α) :=
  ⟨_, World.ownsMap_made _ _ _ _, List.nodup_nil, by simp, rfl, fun x _ => ⟨by simp [DataW.atKey], by simp [Maps.has]⟩⟩
theorem Marks.lt (h : Marks k dom kl w b n S) : b < w.heap.size := by obtain ⟨D, h, _⟩ := h; exact h.lt
theorem Marks.kept {row : Option Nat} (h : Marks k dom kl w b n S) (hg : w.grownBy w' row) (hne : some b ≠ row) : Marks k dom kl w' b n S := by
  obtain ⟨D, h, r⟩ := h; exact ⟨D, h.kept hg hne, r⟩
theorem Marks.alloc (h : Marks k dom kl w b n S) (o : Obj) : Marks k dom kl (w.alloc o) b n S := h.kept (World.grownBy_alloc w o none) (by simp)
theorem Marks.below {B : Nat} (h : Marks k dom kl w b n S) (hb : Below B w w') (hB : b < B) : Marks k dom kl w' b n S := by
  obtain ⟨D, ⟨es, c, hh, r⟩, r'⟩ := h
  exact ⟨D, ⟨es, c, (hb.block b hB).trans hh, r⟩, r'⟩
theorem Marks.mono (h : Marks k dom kl w b n S) {n' : Nat} (hn : n ≤ n') : Marks k dom kl w b n' S := by
  obtain ⟨D, h, r⟩ := h; exact ⟨D, h.mono hn, r⟩
theorem Marks.setCell (h : Marks k dom kl w b n S) {a : Addr} (ha : b ≠ a.block) (u : Value) : Marks k dom kl (w.setCell a u) b n S := by
  obtain ⟨D, h, r⟩ := h; exact ⟨D, h.setCell ha u, r⟩

theorem zeroB (w : World) : (zeroValue 4).run Tryz.prog w = .ok (.bool false) w := by kernel_rfl

/-- Is it there? -/
theorem Marks.look {t : TypeId} (h : Marks k dom kl w b n S) (K : KeyOf k f dom kl) (ht : Tryz.prog.underlying t = some (.map k 4)) {x : α} (hx : dom x) :
    (Instr.lookup t (.map (some b)) (f x) false).run Tryz.prog w = .ok (.bool (decide (x ∈ S))) w := by
  obtain ⟨D, h, _, _, _, h4⟩ := h
  obtain ⟨v, ps, hrun, hv⟩ := h.lookup K.law ht (zeroB w) (plainElem_bool Tryz.underlying4 false) (K.key x hx)
  obtain ⟨c, rfl, hc⟩ := plainElem_bool_inv Tryz.underlying4 hv
  rw [(h4 x hx).1] at hc
  rw [hrun]
  simp only [Prod.mk.injEq, DataW.lit.injEq, Lit.bool.injEq] at hc
  rw [hc.1]
theorem Marks.len {t : TypeId} (h : Marks k dom kl w b n S) (ht : Tryz.prog.underlying t = some (.map k 4)) (ty : TypeId) :
    (Builtin.len_ #[t] ty #[.map (some b)]).run Tryz.prog w = .ok (.int .i64 S.length) w := by
  obtain ⟨D, h, _, _, h3, _⟩ := h
  rw [h.len ht ty, h3]
/-- It is put in. -/
theorem Marks.put {t : TypeId} (h : Marks k dom kl w b n S) (K : KeyOf k f dom kl) (ht : Tryz.prog.underlying t = some (.map k 4)) (hn : n < maxLen) {x : α} (hx : dom x) :
    ∃ w', (Instr.mapUpdate t (.map (some b)) (f x) (.bool true)).run Tryz.prog w = .ok () w' ∧ Marks k dom kl w' b (n + 1) (if x ∈ S then S else x :: S) ∧ w.grownBy w' (some b) := by
  obtain ⟨D, h, h1, h2, h3, h4⟩ := h
  obtain ⟨w', hrun, hown, hg⟩ := h.update K.law ht hn (K.key x hx) (plainElem_bool Tryz.underlying4 true)
  refine ⟨w', hrun, ⟨_, hown, ?_, ?_, ?_, ?_⟩, hg⟩
  · by_cases c : x ∈ S
    · rw [if_pos c]; exact h1
    · rw [if_neg c]; exact List.nodup_cons.2 ⟨c, h1⟩
  · intro y hy
    by_cases c : x ∈ S
    · rw [if_pos c] at hy; exact h2 y hy
    · rw [if_neg c] at hy
      rcases List.mem_cons.1 hy with rfl | hy
      · exact hx
      · exact h2 y hy
  · rw [size_put (h.tidy K.law), (h4 x hx).2, h3]
    by_cases c : x ∈ S <;> simp [c]
  · intro y hy
    by_cases e : y = x
    · subst e
      have hk := K.law.key (K.key y hx)
      rw [atKey_put_same h.isMap hk, has_put_same h.isMap hk]
      by_cases c : y ∈ S <;> simp [c]
    · have hne : kl y ≠ kl x := fun c => e (K.inj _ _ (K.law.inj (K.key y hy) (by rw [K.key x hx, c])))
      rw [atKey_put_other hne, has_put_other hne]
      have := h4 y hy
      by_cases c : x ∈ S
      · rw [if_pos c]; exact this
      · rw [if_neg c]; simpa [e] using this
/-- All of it goes. -/
theorem Marks.clear {t : TypeId} (h : Marks k dom kl w b n S) (ht : Tryz.prog.underlying t = some (.map k 4)) (ty : TypeId) :
    ∃ w', (Builtin.clear_ #[t] ty #[.map (some b)]).run Tryz.prog w = .ok (.tuple #[]) w' ∧ Marks k dom kl w' b 0 ([] : List α) ∧ w.grownBy w' (some b) := by
  obtain ⟨D, ⟨es, clock, hb, F, _, _⟩, _⟩ := h
  refine ⟨_, ?_, ⟨.map [], ⟨#[], clock, heap_setBlock_same hb _, ⟨by simp, MapKept.stamped_empty clock, by simp⟩, Nat.le_refl _, rfl⟩, List.nodup_nil, by simp, rfl, fun x _ => ⟨by simp [DataW.atKey], by simp [Maps.has]⟩⟩,
    ⟨rfl, rfl, rfl, by simp [setBlock], fun i _ hi => heap_setBlock_other hb _ (fun e => hi (by rw [e]))⟩⟩
  simp [Builtin.clear_, run_underlying ht, MapKept.run_getObj_map hb, MapKept.run_setObj_map _ hb, Result.andThen]
  rfl

variable {ops : Array Oper} {rest : List Oper} {o : Oper} {a : Act} {Q : Exit → Act → World → Prop}
/-- 'm[x] = true' AT THE OPERATION. -/
theorem wpList_put_marks (hg : o.guard = none) (m x v : Operand) (t : TypeId) (hop : o.op = Op.mapUpdate t m x v) (K : KeyOf k f dom kl) (ht : Tryz.prog.underlying t = some (.map k 4))
    (h : Marks k dom kl w b n S) (hn : n < maxLen) (y : α) (hm : a.eval m = .map (some b)) (hx : a.eval x = f y) (hv : a.eval v = .bool true) (hy : dom y)
    (hK : ∀ w', Marks k dom kl w' b (n + 1) (if y ∈ S then S else y :: S) → w.grownBy w' (some b) → wpList Tryz.prog ops Q rest (a.put o.dst undef) w') : wpList Tryz.prog ops Q (o :: rest) a w := by
  refine wpList_plain hg fun K' hK' => ?_
  obtain ⟨w', hrun, r1, r2⟩ := h.put K ht hn hy
  unfold Oper.wp
  simp [execOp, hop, hm, hx, hv, hrun, Result.andThen]
  exact hK' _ _ (hK w' r1 r2)
/-- 'clear(m)' AT THE OPERATION. -/
theorem wpList_clear_marks (hg : o.guard = none) (m : Operand) (t : TypeId) (hop : o.op = Op.call { callee := Callee.builtin Builtin.clear, args := #[m], argTypes := #[t] }) (ht : Tryz.prog.underlying t = some (.map k 4))
    (h : Marks k dom kl w b n S) (hm : a.eval m = .map (some b))
    (hK : ∀ w', Marks k dom kl w' b 0 ([] : List α) → w.grownBy w' (some b) → wpList Tryz.prog ops Q rest (a.put o.dst (.tuple #[])) w') : wpList Tryz.prog ops Q (o :: rest) a w := by
  refine wpList_plain hg fun K' hK' => ?_
  obtain ⟨w', hrun, r1, r2⟩ := h.clear ht o.type
  unfold Oper.wp
  simp [execOp, hop, resolve, invoke, builtin, hm, hrun, Result.andThen]
  exact hK' _ _ (hK w' r1 r2)

end
end Go.Proofs.YtgelaffifjicoaaGreatDoor
