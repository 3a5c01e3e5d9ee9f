/-
  WALK: policy.last: of each machine's snapshots, the latest one first, the first ones of so many periods.
-/
import Derived.Test.YtgelaffifjicoaaGreatDoorKeys
import Derived.Test.YtgelaffifjicoaaGreatDoorSorted
import Derived.Maps.OwnIn
namespace Go.Proofs.YtgelaffifjicoaaGreatDoor
open Go.RowKit
set_option linter.unusedSimpArgs false
set_option linter.unusedVariables false

def ins {α : Type} [DecidableEq α] (x : α) (S : List α) : List α := if x ∈ S then S else x :: S
/-- The walk's state: the machine, if any; its periods that are met; what is kept. -/
structure LSt where
  m : Option ByteArray
  met : List Int
  kept : List One
def LSt.met0 (s : LSt) (x : One) : List Int := if s.m = some x.m then s.met else []
def LSt.step (per : Int → Int) (n : Int) (s : LSt) (x : One) : LSt :=
  if per x.t ∉ s.met0 x ∧ ((s.met0 x).length : Int) < n then ⟨some x.m, per x.t :: s.met0 x, ins x s.kept⟩ else ⟨some x.m, s.met0 x, s.kept⟩
def lastGo (per : Int → Int) (n : Int) (l : List One) (K : List One) : LSt := l.foldl (LSt.step per n) ⟨none, [], K⟩
def LSt.str (s : LSt) : ByteArray := s.m.getD ⟨#[]⟩

theorem lastGo_succ (per : Int → Int) (n : Int) (l : List One) (K : List One) (k : Nat) (h : k < l.length) : lastGo per n (l.take (k + 1)) K = (lastGo per n (l.take k) K).step per n l[k] := by
  unfold lastGo
  rw [List.take_succ_eq_append_getElem h, List.foldl_append]; rfl
theorem lastGo_none (per : Int → Int) (n : Int) (l : List One) (K : List One) : (lastGo per n (l.take 0) K).m = none := rfl
theorem lastGo_some (per : Int → Int) (n : Int) (l : List One) (K : List One) (k : Nat) (hk : 0 < k) (h : k ≤ l.length) : ∃ mm, (lastGo per n (l.take k) K).m = some mm := by
  obtain ⟨j, rfl⟩ : ∃ j, k = j + 1 := ⟨k - 1, by omega⟩
  rw [lastGo_succ per n l K j (by omega)]
  refine ⟨l[j].m, ?_⟩
  unfold LSt.step; split <;> rfl
theorem toList_ne {a b : ByteArray} (h : ¬ a = b) : (a.toList == b.toList) = false := by
  rw [beq_eq_false_iff_ne]
  intro c
  apply h
  rw [ByteArray.toList_eq, ByteArray.toList_eq] at c
  cases a; cases b; simp_all
theorem step_m (per : Int → Int) (n : Int) (s : LSt) (x : One) : (s.step per n x).m = some x.m := by unfold LSt.step; split <;> rfl
theorem Marks.nocell {α : Type} [DecidableEq α] {t : TypeId} {dom : α → Prop} {kl : α → Lit} {w : World} {b n : Nat} {S : List α} (h : Marks t dom kl w b n S) {o : Nat} {v : Value} (hc : w.cell? ⟨b, o, none⟩ = some v) : False := by
  obtain ⟨D, ⟨es, clock, hb, _⟩, _⟩ := h
  simp [World.cell?, hb] at hc

section
variable {w W W' : World} {row : Option Nat}
theorem gb_alloc (h : w.grownBy W row) (o : Obj) : w.grownBy (W.alloc o) row :=
  ⟨h.os, h.tape, h.output, Nat.le_trans h.size (by simp), fun k hk hne => (Below.heap_alloc W o k (Nat.lt_of_lt_of_le hk h.size)).trans (h.block k hk hne)⟩
theorem gb_below (h : w.grownBy W row) (hb : Below W.heap.size W W') : w.grownBy W' row :=
  ⟨hb.os.trans h.os, hb.tape.trans h.tape, hb.output.trans h.output, Nat.le_trans h.size hb.size, fun k hk hne => (hb.block k (Nat.lt_of_lt_of_le hk h.size)).trans (h.block k hk hne)⟩
theorem gb_trans {r : Nat} (h : w.grownBy W row) (hb : W.grownBy W' (some r)) (hr : w.heap.size ≤ r ∨ row = some r) : w.grownBy W' row :=
  ⟨hb.os.trans h.os, hb.tape.trans h.tape, hb.output.trans h.output, Nat.le_trans h.size hb.size, fun k hk hne =>
    (hb.block k (Nat.lt_of_lt_of_le hk h.size) (fun e => by
      injection e with e
      rcases hr with hr | hr
      · omega
      · exact hne (by rw [e, hr]))).trans (h.block k hk hne)⟩
theorem gb_refl (w : World) (row : Option Nat) : w.grownBy w row := ⟨rfl, rfl, rfl, Nat.le_refl _, fun _ _ _ => rfl⟩
end

def PerSays (g : Nat) (per : Int → Int) : Prop := ∀ (x : Int) (w : World), okI x → Calls Tryz.prog g #[.int .i64 x] w fun e w' => e = .returned (.int .i64 (per x)) ∧ Below w.heap.size w w'

set_option maxRecDepth 100000 in
set_option maxHeartbeats 1000000 in
theorem last_any (g : Nat) (per : Int → Int) (eg : ∀ args w, (callFunc g args).run Tryz.prog w = .ok (.enter g args) w) (hg : PerSays g per) (hpi : ∀ x, okI x → okI (per x)) (l : List One) (hok : ∀ x ∈ l, x.ok) (A : Option Addr) (cap : Nat) (n : Int) (bk nk : Nat) (K : List One) (w : World)
    (hr : Reads w w.heap.size 3 A l.length (l.flatMap One.cs)) (hn : l.length ≤ 60) (hK : Marks 55 One.ok klO w bk nk K) (hnk : nk ≤ 1000) :
    Calls Tryz.prog 25 #[.slice A l.length cap, .int .i64 n, .func (.func g) #[] #[], .map (some bk)] w fun e w' => e = .returned (.tuple #[]) ∧ Marks 55 One.ok klO w' bk (nk + 60) (lastGo per n l K).kept ∧ w.grownBy w' (some bk) := by
  have hmm := @run_makeMap Tryz.prog
  have hbk := hK.lt
  go_enter Tryz.func25, Tryz.ntmps25
  go_wp2_with fail
  go_loopw [9, 16] (fun s i wr => ∃ k : Nat, i = .int .i64 k ∧ k ≤ l.length ∧ s = .string (lastGo per n (l.take k) K).str ∧ Marks 2 okI klI wr w.heap.size k (lastGo per n (l.take k) K).met ∧ Marks 55 One.ok klO wr bk (nk + k) (lastGo per n (l.take k) K).kept ∧ w.grownBy wr (some bk))
    (fun _ i _ => l.length - (intOf i).toNat)
  case atStart => exact ⟨0, rfl, Nat.zero_le _, rfl, Marks.made _ _ _ _, hK.alloc _, World.grownBy_alloc _ _ _⟩
  case round =>
    obtain ⟨k, rfl, hk, rfl, hmet, hkept, hgr⟩ := hrel
    by_cases hlt : k < l.length
    · obtain ⟨b, o, x, rfl, hx, hbl, c0, c1, c2⟩ := hr.one rfl hlt
      have hbb : some b ≠ some bk := fun e => by injection e with e; subst e; exact hK.nocell c0
      replace c0 := hgr.cell c0 hbb
      replace c1 := hgr.cell c1 hbb
      replace c2 := hgr.cell c2 hbb
      have hxo : x.ok := by rw [hx]; exact hok _ (List.getElem_mem _)
      have hnx : lastGo per n (l.take (k + 1)) K = (lastGo per n (l.take k) K).step per n x := by rw [hx]; exact lastGo_succ per n l K k hlt
      have HNX := Lib.hid hnx
      have hsome := lastGo_some per n l K k
      have hnone : k = 0 → (lastGo per n (l.take k) K).m = none := fun e => by subst e; rfl
      clear hx hnx
      generalize lastGo per n (l.take k) K = st at *
      have hxlt := hmet.lt
      by_cases hsame : ¬ k = 0 ∧ st.m = some x.m
      · obtain ⟨hk0, hm⟩ := hsame
        have hstr : st.str = x.m := by unfold LSt.str; rw [hm]; rfl
        rw [hstr]
        have hm0 : st.met0 x = st.met := by unfold LSt.met0; rw [if_pos hm]
        rw [← hm0] at hmet
        have HM := Lib.hid hm
        have hb0 : ((k : Int) == 0) = false := by rw [beq_eq_false_iff_ne]; omega
        clear hm hm0 hstr
        go_wp2_with fail
        have hbox : (wr.alloc (.cells #[.string x.m, .int .i64 x.n, .int .i64 x.t] 55)).heap[wr.heap.size]? = some (.cells #[.string x.m, .int .i64 x.n, .int .i64 x.t] 55 (0, 0)) := heap_alloc_new _ _
        have hmetW := hmet.alloc (.cells #[.string x.m, .int .i64 x.n, .int .i64 x.t] 55)
        have hkeptW := hkept.alloc (.cells #[.string x.m, .int .i64 x.n, .int .i64 x.t] 55)
        have hgW := gb_alloc hgr (.cells #[.string x.m, .int .i64 x.n, .int .i64 x.t] 55)
        clear hmet hkept hgr c0 c1 c2
        generalize wr.alloc (.cells #[.string x.m, .int .i64 x.n, .int .i64 x.t] 55) = W at *
        have hmlt := hmetW.lt
        have hklt := hkeptW.lt
        have hxl : wr.heap.size < W.heap.size := (Array.getElem?_eq_some_iff.1 hbox).1
        refine (hg x.t _ hxo.2.2).mono ?_; rintro e w2 ⟨rfl, hb2⟩
        have hmet2 := hmetW.below hb2 hmlt
        have hkept2 := hkeptW.below hb2 hklt
        have hbox2 := (hb2.block _ hxl).trans hbox
        have hg2 := gb_below hgW hb2
        clear hmetW hkeptW hbox hgW hmlt hklt hxl hb2
        have d0 : w2.cell? ⟨wr.heap.size, 0, none⟩ = some (.string x.m) := by simp [World.cell?, hbox2]
        have d1 : w2.cell? ⟨wr.heap.size, 1, none⟩ = some (.int .i64 x.n) := by simp [World.cell?, hbox2]
        have d2 : w2.cell? ⟨wr.heap.size, 2, none⟩ = some (.int .i64 x.t) := by simp [World.cell?, hbox2]
        have hlk := hmet2.look keysI Tryz.underlying82 (hpi x.t hxo.2.2)
        have hln := fun ty => hmet2.len Tryz.underlying82 ty
        by_cases hin : per x.t ∈ st.met0 x
        · rw [decide_eq_true hin] at hlk
          go_wp2_with fail
          go_roundw
          case rel =>
            refine ⟨k + 1, by go_num, by omega, ?_, ?_, ?_, hg2⟩
            · rw [HNX.out]; unfold LSt.step; rw [if_neg (fun c => c.1 hin)]; rfl
            · rw [HNX.out]; unfold LSt.step; rw [if_neg (fun c => c.1 hin)]; exact hmet2.mono (by omega)
            · rw [HNX.out]; unfold LSt.step; rw [if_neg (fun c => c.1 hin)]; exact hkept2.mono (by omega)
          case measure => simp [intOf]; omega
        · rw [decide_eq_false hin] at hlk
          by_cases hlen : ((st.met0 x).length : Int) < n
          · have hst : st.step per n x = ⟨some x.m, per x.t :: st.met0 x, ins x st.kept⟩ := by unfold LSt.step; rw [if_pos ⟨hin, hlen⟩]
            have HST := Lib.hid hst
            clear hst
            go_wp2_with (first | (at_mapUpdate; refine wpList_put_marks rfl (.tmp 46) (.tmp 47) (.const (.bool true)) 82 rfl keysI Tryz.underlying82 hmet2 (by unfold maxLen; omega) (per x.t) (by rfl) (by rfl) (by rfl) (hpi x.t hxo.2.2) ?_; intro w3 hmet3 hgr3; rw [if_neg hin] at hmet3; have hkept3 := hkept2.kept hgr3 (fun e => by injection e with e; omega); have hbox3 := (hgr3.block wr.heap.size (Array.getElem?_eq_some_iff.1 hbox2).1 (fun e => by injection e with e; omega)).trans hbox2; have hg3 := gb_trans hg2 hgr3 (.inl (Nat.le_refl _)); clear hmet2 hkept2 hbox2 hlk hln d0 d1 d2 hgr3 hg2; have d0 : w3.cell? ⟨wr.heap.size, 0, none⟩ = some (.string x.m) := (by simp [World.cell?, hbox3]); have d1 : w3.cell? ⟨wr.heap.size, 1, none⟩ = some (.int .i64 x.n) := (by simp [World.cell?, hbox3]); have d2 : w3.cell? ⟨wr.heap.size, 2, none⟩ = some (.int .i64 x.t) := (by simp [World.cell?, hbox3])) | (at_mapUpdate; refine wpList_put_marks rfl (.tmp 48) (.tmp 49) (.const (.bool true)) 48 rfl keysO Tryz.underlying48 hkept3 (by unfold maxLen; omega) x (by rfl) (by rfl) (by rfl) hxo ?_; intro w4 hkept4 hgr4; have hmet4 := hmet3.kept hgr4 (fun e => by injection e with e; omega); have hg4 := gb_trans hg3 hgr4 (.inr rfl); clear hmet3 hkept3 hbox3 d0 d1 d2 hgr4 hg3))
            go_roundw
            case rel =>
              refine ⟨k + 1, by go_num, by omega, ?_, ?_, ?_, hg4⟩
              · rw [HNX.out, HST.out]; rfl
              · rw [HNX.out, HST.out]; exact hmet4.mono (by omega)
              · rw [HNX.out, HST.out]; exact hkept4.mono (by omega)
            case measure => simp [intOf]; omega
          · have hst : st.step per n x = ⟨some x.m, st.met0 x, st.kept⟩ := by unfold LSt.step; rw [if_neg (fun c => hlen c.2)]
            have HST := Lib.hid hst
            clear hst
            go_wp2_with fail
            go_roundw
            case rel =>
              refine ⟨k + 1, by go_num, by omega, ?_, ?_, ?_, hg2⟩
              · rw [HNX.out, HST.out]; rfl
              · rw [HNX.out, HST.out]; exact hmet2.mono (by omega)
              · rw [HNX.out, HST.out]; exact hkept2.mono (by omega)
            case measure => simp [intOf]; omega
      · have hm0 : st.met0 x = [] := by
          unfold LSt.met0
          by_cases hk0 : k = 0
          · rw [hnone hk0]; rfl
          · rw [if_neg (fun c => hsame ⟨hk0, c⟩)]
        by_cases hk0 : k = 0
        · have hb0 : ((k : Int) == 0) = true := by rw [beq_iff_eq]; omega
          clear hk0 hsome hnone hsame
          have hbox : (wr.alloc (.cells #[.string x.m, .int .i64 x.n, .int .i64 x.t] 55)).heap[wr.heap.size]? = some (.cells #[.string x.m, .int .i64 x.n, .int .i64 x.t] 55 (0, 0)) := heap_alloc_new _ _
          have hmetW := hmet.alloc (.cells #[.string x.m, .int .i64 x.n, .int .i64 x.t] 55)
          have hkeptW := hkept.alloc (.cells #[.string x.m, .int .i64 x.n, .int .i64 x.t] 55)
          have hgW := gb_alloc hgr (.cells #[.string x.m, .int .i64 x.n, .int .i64 x.t] 55)
          clear hmet hkept hgr
          have hxl0 := (Array.getElem?_eq_some_iff.1 hbox).1
          have HB := Lib.hid hbox; clear hbox
          go_wp2_with ((with_reducible show wpList _ _ _ _ _ _); refine wpList_clear_marks rfl (.tmp 29) 82 rfl Tryz.underlying82 hmetW (by rfl) ?_; intro W hmetC hgrC; replace hkeptW := hkeptW.kept hgrC (fun e => by injection e with e; omega); have hbox := (hgrC.block wr.heap.size hxl0 (fun e => by injection e with e; omega)).trans HB.out; clear HB c0 c1 c2; replace hgW := gb_trans hgW hgrC (.inl (Nat.le_refl _)); clear hmetW hgrC hxl0; have hmetW : Marks 2 okI klI W w.heap.size k (st.met0 x) := (by rw [hm0]; exact hmetC.mono (by omega)); clear hmetC hm0; have d0 : W.cell? ⟨wr.heap.size, 0, none⟩ = some (.string x.m) := (by simp [World.cell?, hbox]); have d2 : W.cell? ⟨wr.heap.size, 2, none⟩ = some (.int .i64 x.t) := (by simp [World.cell?, hbox]))
          clear d0 d2
          have hmlt := hmetW.lt
          have hklt := hkeptW.lt
          have hxl : wr.heap.size < W.heap.size := (Array.getElem?_eq_some_iff.1 hbox).1
          refine (hg x.t _ hxo.2.2).mono ?_; rintro e w2 ⟨rfl, hb2⟩
          have hmet2 := hmetW.below hb2 hmlt
          have hkept2 := hkeptW.below hb2 hklt
          have hbox2 := (hb2.block _ hxl).trans hbox
          have hg2 := gb_below hgW hb2
          clear hmetW hkeptW hbox hgW hmlt hklt hxl hb2
          have d0 : w2.cell? ⟨wr.heap.size, 0, none⟩ = some (.string x.m) := by simp [World.cell?, hbox2]
          have d1 : w2.cell? ⟨wr.heap.size, 1, none⟩ = some (.int .i64 x.n) := by simp [World.cell?, hbox2]
          have d2 : w2.cell? ⟨wr.heap.size, 2, none⟩ = some (.int .i64 x.t) := by simp [World.cell?, hbox2]
          have hlk := hmet2.look keysI Tryz.underlying82 (hpi x.t hxo.2.2)
          have hln := fun ty => hmet2.len Tryz.underlying82 ty
          by_cases hin : per x.t ∈ st.met0 x
          · rw [decide_eq_true hin] at hlk
            go_wp2_with fail
            go_roundw
            case rel =>
              refine ⟨k + 1, by go_num, by omega, ?_, ?_, ?_, hg2⟩
              · rw [HNX.out]; unfold LSt.step; rw [if_neg (fun c => c.1 hin)]; rfl
              · rw [HNX.out]; unfold LSt.step; rw [if_neg (fun c => c.1 hin)]; exact hmet2.mono (by omega)
              · rw [HNX.out]; unfold LSt.step; rw [if_neg (fun c => c.1 hin)]; exact hkept2.mono (by omega)
            case measure => simp [intOf]; omega
          · rw [decide_eq_false hin] at hlk
            by_cases hlen : ((st.met0 x).length : Int) < n
            · have hst : st.step per n x = ⟨some x.m, per x.t :: st.met0 x, ins x st.kept⟩ := by unfold LSt.step; rw [if_pos ⟨hin, hlen⟩]
              have HST := Lib.hid hst
              clear hst
              go_wp2_with (first | (at_mapUpdate; refine wpList_put_marks rfl (.tmp 46) (.tmp 47) (.const (.bool true)) 82 rfl keysI Tryz.underlying82 hmet2 (by unfold maxLen; omega) (per x.t) (by rfl) (by rfl) (by rfl) (hpi x.t hxo.2.2) ?_; intro w3 hmet3 hgr3; rw [if_neg hin] at hmet3; have hkept3 := hkept2.kept hgr3 (fun e => by injection e with e; omega); have hbox3 := (hgr3.block wr.heap.size (Array.getElem?_eq_some_iff.1 hbox2).1 (fun e => by injection e with e; omega)).trans hbox2; have hg3 := gb_trans hg2 hgr3 (.inl (Nat.le_refl _)); clear hmet2 hkept2 hbox2 hlk hln d0 d1 d2 hgr3 hg2; have d0 : w3.cell? ⟨wr.heap.size, 0, none⟩ = some (.string x.m) := (by simp [World.cell?, hbox3]); have d1 : w3.cell? ⟨wr.heap.size, 1, none⟩ = some (.int .i64 x.n) := (by simp [World.cell?, hbox3]); have d2 : w3.cell? ⟨wr.heap.size, 2, none⟩ = some (.int .i64 x.t) := (by simp [World.cell?, hbox3])) | (at_mapUpdate; refine wpList_put_marks rfl (.tmp 48) (.tmp 49) (.const (.bool true)) 48 rfl keysO Tryz.underlying48 hkept3 (by unfold maxLen; omega) x (by rfl) (by rfl) (by rfl) hxo ?_; intro w4 hkept4 hgr4; have hmet4 := hmet3.kept hgr4 (fun e => by injection e with e; omega); have hg4 := gb_trans hg3 hgr4 (.inr rfl); clear hmet3 hkept3 hbox3 d0 d1 d2 hgr4 hg3))
              go_roundw
              case rel =>
                refine ⟨k + 1, by go_num, by omega, ?_, ?_, ?_, hg4⟩
                · rw [HNX.out, HST.out]; rfl
                · rw [HNX.out, HST.out]; exact hmet4.mono (by omega)
                · rw [HNX.out, HST.out]; exact hkept4.mono (by omega)
              case measure => simp [intOf]; omega
            · have hst : st.step per n x = ⟨some x.m, st.met0 x, st.kept⟩ := by unfold LSt.step; rw [if_neg (fun c => hlen c.2)]
              have HST := Lib.hid hst
              clear hst
              go_wp2_with fail
              go_roundw
              case rel =>
                refine ⟨k + 1, by go_num, by omega, ?_, ?_, ?_, hg2⟩
                · rw [HNX.out, HST.out]; rfl
                · rw [HNX.out, HST.out]; exact hmet2.mono (by omega)
                · rw [HNX.out, HST.out]; exact hkept2.mono (by omega)
              case measure => simp [intOf]; omega
        · obtain ⟨mm, hmm⟩ := hsome (by omega) hk
          have hstr : st.str = mm := by unfold LSt.str; rw [hmm]; rfl
          rw [hstr]
          have hne : (x.m.toList == mm.toList) = false := toList_ne (fun c => hsame ⟨hk0, by rw [hmm, c]⟩)
          have hb0 : ((k : Int) == 0) = false := by rw [beq_eq_false_iff_ne]; omega
          clear hmm hstr hsame hsome hnone
          have hbox : (wr.alloc (.cells #[.string x.m, .int .i64 x.n, .int .i64 x.t] 55)).heap[wr.heap.size]? = some (.cells #[.string x.m, .int .i64 x.n, .int .i64 x.t] 55 (0, 0)) := heap_alloc_new _ _
          have hmetW := hmet.alloc (.cells #[.string x.m, .int .i64 x.n, .int .i64 x.t] 55)
          have hkeptW := hkept.alloc (.cells #[.string x.m, .int .i64 x.n, .int .i64 x.t] 55)
          have hgW := gb_alloc hgr (.cells #[.string x.m, .int .i64 x.n, .int .i64 x.t] 55)
          clear hmet hkept hgr
          have hxl0 := (Array.getElem?_eq_some_iff.1 hbox).1
          have HB := Lib.hid hbox; clear hbox
          go_wp2_with ((with_reducible show wpList _ _ _ _ _ _); refine wpList_clear_marks rfl (.tmp 29) 82 rfl Tryz.underlying82 hmetW (by rfl) ?_; intro W hmetC hgrC; replace hkeptW := hkeptW.kept hgrC (fun e => by injection e with e; omega); have hbox := (hgrC.block wr.heap.size hxl0 (fun e => by injection e with e; omega)).trans HB.out; clear HB c0 c1 c2; replace hgW := gb_trans hgW hgrC (.inl (Nat.le_refl _)); clear hmetW hgrC hxl0; have hmetW : Marks 2 okI klI W w.heap.size k (st.met0 x) := (by rw [hm0]; exact hmetC.mono (by omega)); clear hmetC hm0; have d0 : W.cell? ⟨wr.heap.size, 0, none⟩ = some (.string x.m) := (by simp [World.cell?, hbox]); have d2 : W.cell? ⟨wr.heap.size, 2, none⟩ = some (.int .i64 x.t) := (by simp [World.cell?, hbox]))
          clear d0 d2
          have hmlt := hmetW.lt
          have hklt := hkeptW.lt
          have hxl : wr.heap.size < W.heap.size := (Array.getElem?_eq_some_iff.1 hbox).1
          refine (hg x.t _ hxo.2.2).mono ?_; rintro e w2 ⟨rfl, hb2⟩
          have hmet2 := hmetW.below hb2 hmlt
          have hkept2 := hkeptW.below hb2 hklt
          have hbox2 := (hb2.block _ hxl).trans hbox
          have hg2 := gb_below hgW hb2
          clear hmetW hkeptW hbox hgW hmlt hklt hxl hb2
          have d0 : w2.cell? ⟨wr.heap.size, 0, none⟩ = some (.string x.m) := by simp [World.cell?, hbox2]
          have d1 : w2.cell? ⟨wr.heap.size, 1, none⟩ = some (.int .i64 x.n) := by simp [World.cell?, hbox2]
          have d2 : w2.cell? ⟨wr.heap.size, 2, none⟩ = some (.int .i64 x.t) := by simp [World.cell?, hbox2]
          have hlk := hmet2.look keysI Tryz.underlying82 (hpi x.t hxo.2.2)
          have hln := fun ty => hmet2.len Tryz.underlying82 ty
          by_cases hin : per x.t ∈ st.met0 x
          · rw [decide_eq_true hin] at hlk
            go_wp2_with fail
            go_roundw
            case rel =>
              refine ⟨k + 1, by go_num, by omega, ?_, ?_, ?_, hg2⟩
              · rw [HNX.out]; unfold LSt.step; rw [if_neg (fun c => c.1 hin)]; rfl
              · rw [HNX.out]; unfold LSt.step; rw [if_neg (fun c => c.1 hin)]; exact hmet2.mono (by omega)
              · rw [HNX.out]; unfold LSt.step; rw [if_neg (fun c => c.1 hin)]; exact hkept2.mono (by omega)
            case measure => simp [intOf]; omega
          · rw [decide_eq_false hin] at hlk
            by_cases hlen : ((st.met0 x).length : Int) < n
            · have hst : st.step per n x = ⟨some x.m, per x.t :: st.met0 x, ins x st.kept⟩ := by unfold LSt.step; rw [if_pos ⟨hin, hlen⟩]
              have HST := Lib.hid hst
              clear hst
              go_wp2_with (first | (at_mapUpdate; refine wpList_put_marks rfl (.tmp 46) (.tmp 47) (.const (.bool true)) 82 rfl keysI Tryz.underlying82 hmet2 (by unfold maxLen; omega) (per x.t) (by rfl) (by rfl) (by rfl) (hpi x.t hxo.2.2) ?_; intro w3 hmet3 hgr3; rw [if_neg hin] at hmet3; have hkept3 := hkept2.kept hgr3 (fun e => by injection e with e; omega); have hbox3 := (hgr3.block wr.heap.size (Array.getElem?_eq_some_iff.1 hbox2).1 (fun e => by injection e with e; omega)).trans hbox2; have hg3 := gb_trans hg2 hgr3 (.inl (Nat.le_refl _)); clear hmet2 hkept2 hbox2 hlk hln d0 d1 d2 hgr3 hg2; have d0 : w3.cell? ⟨wr.heap.size, 0, none⟩ = some (.string x.m) := (by simp [World.cell?, hbox3]); have d1 : w3.cell? ⟨wr.heap.size, 1, none⟩ = some (.int .i64 x.n) := (by simp [World.cell?, hbox3]); have d2 : w3.cell? ⟨wr.heap.size, 2, none⟩ = some (.int .i64 x.t) := (by simp [World.cell?, hbox3])) | (at_mapUpdate; refine wpList_put_marks rfl (.tmp 48) (.tmp 49) (.const (.bool true)) 48 rfl keysO Tryz.underlying48 hkept3 (by unfold maxLen; omega) x (by rfl) (by rfl) (by rfl) hxo ?_; intro w4 hkept4 hgr4; have hmet4 := hmet3.kept hgr4 (fun e => by injection e with e; omega); have hg4 := gb_trans hg3 hgr4 (.inr rfl); clear hmet3 hkept3 hbox3 d0 d1 d2 hgr4 hg3))
              go_roundw
              case rel =>
                refine ⟨k + 1, by go_num, by omega, ?_, ?_, ?_, hg4⟩
                · rw [HNX.out, HST.out]; rfl
                · rw [HNX.out, HST.out]; exact hmet4.mono (by omega)
                · rw [HNX.out, HST.out]; exact hkept4.mono (by omega)
              case measure => simp [intOf]; omega
            · have hst : st.step per n x = ⟨some x.m, st.met0 x, st.kept⟩ := by unfold LSt.step; rw [if_neg (fun c => hlen c.2)]
              have HST := Lib.hid hst
              clear hst
              go_wp2_with fail
              go_roundw
              case rel =>
                refine ⟨k + 1, by go_num, by omega, ?_, ?_, ?_, hg2⟩
                · rw [HNX.out, HST.out]; rfl
                · rw [HNX.out, HST.out]; exact hmet2.mono (by omega)
                · rw [HNX.out, HST.out]; exact hkept2.mono (by omega)
              case measure => simp [intOf]; omega
    · have hkl : k = l.length := by omega
      subst hkl
      rw [List.take_length] at hkept
      go_wp2_with fail
      go_end0
      exact ⟨rfl, hkept.mono (by omega), hgr⟩

end Go.Proofs.YtgelaffifjicoaaGreatDoor
