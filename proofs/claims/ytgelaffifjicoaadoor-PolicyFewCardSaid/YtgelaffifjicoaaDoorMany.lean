/-
  A MAP OF MAPS: machines, and of each machine a set of pairs of numbers.
-/
import Derived.Test.YtgelaffifjicoaaDoorFewP
import Derived.Test.YtgelaffifjicoaaDoorKeys
import Derived.Maps.RangeWalk
import Derived.Sort.MapsRangeIn
import Derived.StringKeys
namespace Go.Proofs.YtgelaffifjicoaaDoor
open Go.RowKit Go.Maps Go.WideMaps Go.ChangeMaps Go.WideElems Go.WideShapes Go.MapKept
set_option linter.unusedSimpArgs false
set_option linter.unusedVariables false

/-! ### Keys of two numbers -/
abbrev PairI := Int × Int
def PairI.v (q : PairI) : Value := .agg #[.int .i64 q.1, .int .i64 q.2]
def okP (q : PairI) : Prop := okI q.1 ∧ okI q.2
def klP (q : PairI) : Lit := .string (keyBytes [.int .i64 q.1, .int .i64 q.2])
theorem keyType_pair : Tryd.prog.keyType 39 = true := by kernel_rfl
theorem cells_pair : Tryd.prog.cellsOf 39 = 2 := by kernel_rfl
theorem row_pair : 39 < Tryd.prog.types.size := of_decide_eq_true (by kernel_rfl)
theorem keyOf_pair {q : PairI} (h : okP q) : keyOf Tryd.prog 39 q.v = some (klP q) := by
  obtain ⟨h1, h2⟩ := h
  obtain ⟨m, hm⟩ := size_types
  have w1 := wf_okI h1
  have w2 := wf_okI h2
  unfold keyOf
  rw [Tryd.underlying39]
  dsimp only
  rw [if_pos (by simp [keyType_pair, Value.formed, Tryd.underlying39, cells_pair, PairI.v]), hm]
  unfold Program.keyLits
  rw [Tryd.underlying39]
  simp [Value.cells, cells_pair, cells_int64, Program.keyLits, Tryd.underlying2, w1, w2, klP, PairI.v, List.range, List.range.loop, List.mapM_cons]
theorem keyAt_pair : Tryd.prog.keyTypeAt 2 39 = true := by kernel_rfl
set_option maxRecDepth 100000 in
theorem law_pair : KeyLaw Tryd.prog 39 := deep_law_laid laidOut (m := 2) (by omega) row_pair keyAt_pair (by kernel_rfl)
theorem keysP : KeyOf 39 PairI.v okP klP where
  law := Keyed.of_law law_pair
  key := fun x h => keyOf_pair h
  inj := fun x y h => by
    obtain ⟨a, b⟩ := x
    obtain ⟨c, d⟩ := y
    unfold PairI.v at h
    simp at h
    simp [h.1, h.2]

/-! ### Elements that are maps -/
def mapElem (v : Value) : Option (DataW Unit × List MemPlace) := match v with
  | .map (some b) => some (.lit (.int .i64 b), [])
  | .map none => some (.nil, [])
  | _ => none
theorem mapElem_inv {v : Value} {y : DataW Unit × List MemPlace} (h : mapElem v = some y) : ∃ c : Option Nat, v = .map c := by
  unfold mapElem at h
  split at h
  · exact ⟨_, rfl⟩
  · exact ⟨_, rfl⟩
  · cases h
def datumM (c : Option Nat) : DataW Unit := match c with | none => .nil | some b => .lit (.int .i64 b)
theorem mapElem_map (c : Option Nat) : mapElem (.map c) = some (datumM c, []) := by cases c <;> rfl
theorem datumM_inj {c d : Option Nat} (h : datumM c = datumM d) : c = d := by
  cases c <;> cases d <;> simp [datumM] at h
  · rfl
  · rw [show (_ : Nat) = _ from Int.ofNat.inj h]
def klS (s : ByteArray) : Lit := .string s.data.toList
theorem klS_inj {s t : ByteArray} (h : klS s = klS t) : s = t := by
  unfold klS at h
  injection h with h
  cases s with | mk a => cases t with | mk b => simp at h; rw [h]
theorem keyS {s : ByteArray} (h : s.size ≤ maxLen) : keyOf Tryd.prog 9 (.string s) = some (klS s) := keyOf_string_mk Tryd.underlying9 h
theorem lawS : Keyed Tryd.prog 9 := string_keyed Tryd.underlying9

/-- Block bm is the map of machines: of each s the block g s. -/
def Outer (w : World) (bm n : Nat) (g : ByteArray → Option Nat) : Prop :=
  ∃ D : DataW Unit, w.ownsMap Tryd.prog 9 mapElem bm n D ∧ ∀ s : ByteArray, s.size ≤ maxLen → D.atKey (klS s) .nil = datumM (g s)
set_option maxRecDepth 100000
section
variable {w w' : World} {bm n : Nat} {g : ByteArray → Option Nat}
theorem Outer.made (w : World) : Outer (w.alloc (.map #[] 0)) w.heap.size 0 (fun _ => none) := ⟨_, World.ownsMap_made _ _ _ _, fun s _ => by simp [DataW.atKey, datumM]⟩
theorem Outer.kept {row : Option Nat} (h : Outer w bm n g) (hg : w.grownBy w' row) (hne : some bm ≠ row) : Outer w' bm n g := by obtain ⟨D, h, r⟩ := h; exact ⟨D, h.kept hg hne, r⟩
theorem Outer.mono {n' : Nat} (h : Outer w bm n g) (hn : n ≤ n') : Outer w bm n' g := by obtain ⟨D, h, r⟩ := h; exact ⟨D, h.mono hn, r⟩
theorem Outer.lt (h : Outer w bm n g) : bm < w.heap.size := by obtain ⟨D, h, _⟩ := h; exact h.lt
theorem zeroM (w : World) : (zeroValue 38).run Tryd.prog w = .ok (.map none) w := by kernel_rfl
theorem Outer.look (h : Outer w bm n g) {s : ByteArray} (hs : s.size ≤ maxLen) : (Instr.lookup 37 (.map (some bm)) (.string s) false).run Tryd.prog w = .ok (.map (g s)) w := by
  obtain ⟨D, h, r⟩ := h
  obtain ⟨v, ps, hrun, hv⟩ := h.lookup lawS Tryd.underlying37 (zeroM w) (show mapElem (.map none) = some (.nil, []) from rfl) (keyS hs)
  obtain ⟨c, rfl⟩ := mapElem_inv hv
  rw [mapElem_map, r s hs] at hv
  have : datumM c = datumM (g s) := congrArg Prod.fst (Option.some.inj hv)
  rw [hrun, datumM_inj this]
theorem Outer.put (h : Outer w bm n g) (hn : n < maxLen) {s : ByteArray} (hs : s.size ≤ maxLen) (b : Nat) :
    ∃ w', (Instr.mapUpdate 37 (.map (some bm)) (.string s) (.map (some b))).run Tryd.prog w = .ok () w' ∧ Outer w' bm (n + 1) (fun t => if t = s then some b else g t) ∧ w.grownBy w' (some bm) := by
  obtain ⟨D, h, r⟩ := h
  obtain ⟨w', hrun, hown, hg⟩ := h.update lawS Tryd.underlying37 hn (keyS hs) (mapElem_map (some b))
  refine ⟨w', hrun, ⟨_, hown, fun t ht => ?_⟩, hg⟩
  by_cases e : t = s
  · subst e
    exact (atKey_put_same h.isMap (lawS.key (keyS hs)) _ _).trans (congrArg datumM (if_pos rfl).symm)
  · exact (atKey_put_other (fun c => e (klS_inj c)) _ _).trans ((r t ht).trans (congrArg datumM (if_neg e).symm))

/-- All that has been laid: each machine's set is within what may be. -/
def Many (w : World) (bm n B : Nat) (Ok : ByteArray → PairI → Prop) : Prop :=
  ∃ g, Outer w bm n g ∧ B ≤ bm ∧ (∀ s b, g s = some b → B ≤ b ∧ b ≠ bm ∧ ∃ S : List PairI, Marks 39 okP klP w b n S ∧ ∀ q ∈ S, Ok s q) ∧ ∀ s t b, g s = some b → g t = some b → s = t
variable {B : Nat} {Ok : ByteArray → PairI → Prop}
theorem Many.kept {row : Option Nat} (h : Many w bm n B Ok) (hg : w.grownBy w' row) (hne : ∀ j, row = some j → j < B ∨ w.heap.size ≤ j) : Many w' bm n B Ok := by
  obtain ⟨g, h1, h2, h3, h4⟩ := h
  have hl := h1.lt
  refine ⟨g, h1.kept hg (fun e => by have := hne _ e.symm; omega), h2, fun s b hs => ?_, h4⟩
  obtain ⟨a, c, S, hM, hS⟩ := h3 s b hs
  have hml := hM.lt
  exact ⟨a, c, S, hM.kept hg (fun e => by have := hne _ e.symm; omega), hS⟩
theorem Many.alloc (h : Many w bm n B Ok) (o : Obj) : Many (w.alloc o) bm n B Ok := h.kept (World.grownBy_alloc w o none) (fun _ e => by cases e)
theorem Many.drew (h : Many w bm n B Ok) : Many w.drew bm n B Ok := h
theorem Many.made (w : World) (hB : B ≤ w.heap.size) : Many (w.alloc (.map #[] 0)) w.heap.size 0 B Ok := ⟨_, Outer.made w, hB, fun s b h => by simp at h, fun s t b h => by simp at h⟩
theorem Many.mono {n' : Nat} (h : Many w bm n B Ok) (hn : n ≤ n') : Many w bm n' B Ok := by
  obtain ⟨g, h1, h2, h3, h4⟩ := h
  refine ⟨g, h1.mono hn, h2, fun s b hs => ?_, h4⟩
  obtain ⟨a, c, S, hM, hS⟩ := h3 s b hs
  exact ⟨a, c, S, hM.mono hn, hS⟩
theorem Many.lt (h : Many w bm n B Ok) : B ≤ bm ∧ bm < w.heap.size := by obtain ⟨g, h1, h2, _⟩ := h; exact ⟨h2, h1.lt⟩
/-- Block b is the set of machine s: it may grow. -/
def AtSet (w : World) (bm n B : Nat) (Ok : ByteArray → PairI → Prop) (s : ByteArray) (b : Nat) : Prop :=
  (Instr.lookup 37 (.map (some bm)) (.string s) false).run Tryd.prog w = .ok (.map (some b)) w ∧ B ≤ b ∧ ∃ S : List PairI, Marks 39 okP klP w b n S ∧ (∀ q ∈ S, Ok s q) ∧
    ∀ w' S', w.grownBy w' (some b) → Marks 39 okP klP w' b (n + 1) S' → (∀ q ∈ S', Ok s q) → Many w' bm (n + 1) B Ok
theorem atSet_of {w : World} {bm n B : Nat} {g : ByteArray → Option Nat} {Ok : ByteArray → PairI → Prop} (h1 : Outer w bm n g) (h2 : B ≤ bm) (h3 : ∀ s b, g s = some b → B ≤ b ∧ b ≠ bm ∧ ∃ S : List PairI, Marks 39 okP klP w b n S ∧ ∀ q ∈ S, Ok s q) (h4 : ∀ s t b, g s = some b → g t = some b → s = t)
    (s : ByteArray) (hs : s.size ≤ maxLen) (b : Nat) (hb : g s = some b) : AtSet w bm n B Ok s b := by
  obtain ⟨a, c, S, hM, hS⟩ := h3 s b hb
  refine ⟨by rw [← hb]; exact h1.look hs, a, S, hM, hS, fun w' S' hg hM' hS' => ⟨g, (h1.kept hg (fun e => c (by injection e with e; exact e.symm))).mono (by omega), h2, fun t b' ht => ?_, h4⟩⟩
  obtain ⟨a', c', S2, hM2, hS2⟩ := h3 t b' ht
  refine ⟨a', c', ?_⟩
  by_cases e : b' = b
  · subst e
    obtain rfl := h4 t s _ ht hb
    exact ⟨S', hM', hS'⟩
  · exact ⟨S2, (hM2.kept hg (fun x => e (by injection x))).mono (by omega), hS2⟩
/-- What stands at a machine. -/
theorem Many.at_ (h : Many w bm n B Ok) (s : ByteArray) (hs : s.size ≤ maxLen) :
    ((Instr.lookup 37 (.map (some bm)) (.string s) false).run Tryd.prog w = .ok (.map none) w) ∨ ∃ b, AtSet w bm n B Ok s b := by
  obtain ⟨g, h1, h2, h3, h4⟩ := h
  cases hc : g s with
  | none => exact .inl (by rw [← hc]; exact h1.look hs)
  | some b => exact .inr ⟨b, atSet_of h1 h2 h3 h4 s hs b hc⟩
/-- A machine's set is begun. -/
theorem Many.begin_ (h : Many w bm n B Ok) (hn : n < maxLen) (s : ByteArray) (hs : s.size ≤ maxLen) (hBw : B ≤ w.heap.size) :
    ∃ w', (Instr.mapUpdate 37 (.map (some bm)) (.string s) (.map (some w.heap.size))).run Tryd.prog (w.alloc (.map #[] 0)) = .ok () w' ∧ Many w' bm (n + 1) B Ok ∧ AtSet w' bm (n + 1) B Ok s w.heap.size ∧ (w.alloc (.map #[] 0)).grownBy w' (some bm) := by
  obtain ⟨g, h1, h2, h3, h4⟩ := h
  have hl := h1.lt
  obtain ⟨w', hrun, hO, hg⟩ := (h1.kept (World.grownBy_alloc w (.map #[] 0) none) (by simp)).put hn hs w.heap.size
  have f3 : ∀ t b, (if t = s then some w.heap.size else g t) = some b → B ≤ b ∧ b ≠ bm ∧ ∃ S : List PairI, Marks 39 okP klP w' b (n + 1) S ∧ ∀ q ∈ S, Ok t q := by
    intro t b ht
    by_cases e : t = s
    · subst e
      rw [if_pos rfl] at ht
      injection ht with ht
      subst ht
      exact ⟨hBw, by omega, [], ((Marks.made w _ _ _).kept hg (fun e => by injection e with e; omega)).mono (by omega), by simp⟩
    · rw [if_neg e] at ht
      obtain ⟨a, c, S, hM, hS⟩ := h3 t b ht
      exact ⟨a, c, S, ((hM.alloc _).kept hg (fun e => c (by injection e))).mono (by omega), hS⟩
  have f4 : ∀ t t' b, (if t = s then some w.heap.size else g t) = some b → (if t' = s then some w.heap.size else g t') = some b → t = t' := by
    intro t t' b ht ht'
    have old : ∀ t b, g t = some b → b < w.heap.size := fun t b ht => by obtain ⟨_, _, S, hM, _⟩ := h3 t b ht; exact hM.lt
    by_cases e : t = s <;> by_cases e' : t' = s
    · rw [e, e']
    · rw [if_pos e] at ht; rw [if_neg e'] at ht'
      injection ht with ht; have := old _ _ ht'; omega
    · rw [if_neg e] at ht; rw [if_pos e'] at ht'
      injection ht' with ht'; have := old _ _ ht; omega
    · rw [if_neg e] at ht; rw [if_neg e'] at ht'; exact h4 _ _ _ ht ht'
  exact ⟨w', hrun, ⟨_, hO, h2, f3, f4⟩, atSet_of hO h2 f3 f4 s hs _ (if_pos rfl), hg⟩
variable {ops : Array Oper} {rest : List Oper} {o : Oper} {a : Act} {Q : Exit → Act → World → Prop}
/-- 'm[s] = map..{}' AT THE OPERATION. -/
theorem wpList_begin_many (hg : o.guard = none) (m x v : Operand) (hop : o.op = Op.mapUpdate 37 m x v) (h : Many w bm n B Ok) (hn : n < maxLen) (s : ByteArray) (hs : s.size ≤ maxLen) (hBw : B ≤ w.heap.size)
    {nb : Nat} (hnb : nb = w.heap.size) (hm : a.eval m = .map (some bm)) (hx : a.eval x = .string s) (hv : a.eval v = .map (some nb))
    (hK : ∀ w', Many w' bm (n + 1) B Ok → AtSet w' bm (n + 1) B Ok s nb → (w.alloc (.map #[] 0)).grownBy w' (some bm) → wpList Tryd.prog ops Q rest (a.put o.dst undef) w') : wpList Tryd.prog ops Q (o :: rest) a (w.alloc (.map #[] 0)) := by
  subst hnb
  refine wpList_plain hg fun K' hK' => ?_
  obtain ⟨w', hrun, r1, r3, r2⟩ := h.begin_ hn s hs hBw
  unfold Oper.wp
  simp [execOp, hop, hm, hx, hv, hrun, Result.andThen]
  exact hK' _ _ (hK w' r1 r3 r2)
/-- The entries under way: each is a machine's set. -/
theorem Many.entry (h : Many w bm n B Ok) : ∃ D : DataW Unit, w.ownsMap Tryd.prog 9 mapElem bm n D ∧
    ∀ (s : ByteArray) (c : Option Nat), s.size ≤ maxLen → (∀ zd, D.atKey (klS s) zd = datumM c) → c = none ∨ ∃ b, c = some b ∧ b ≠ bm ∧ B ≤ b ∧ ∃ S : List PairI, Marks 39 okP klP w b n S ∧ ∀ q ∈ S, Ok s q := by
  obtain ⟨g, ⟨D, h1, r⟩, h2, h3, h4⟩ := h
  refine ⟨D, h1, fun s c hs hc => ?_⟩
  have := (r s hs).symm.trans (hc _)
  have e := datumM_inj this
  cases c with
  | none => exact .inl rfl
  | some b =>
    obtain ⟨x, y, S, hM, hS⟩ := h3 s b e
    exact .inr ⟨b, rfl, y, x, S, hM, hS⟩
end

end Go.Proofs.YtgelaffifjicoaaDoor
