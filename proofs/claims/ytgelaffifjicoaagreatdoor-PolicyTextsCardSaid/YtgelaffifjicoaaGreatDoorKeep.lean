/-
  WALK: policy.Keep: which snapshots are kept.
-/
import Derived.Test.YtgelaffifjicoaaGreatDoorLast
import Derived.Test.YtgelaffifjicoaaGreatDoorLaySort
namespace Go.Proofs.YtgelaffifjicoaaGreatDoor
open Go.RowKit
set_option linter.unusedSimpArgs false
set_option linter.unusedVariables false

/-- The four kinds of periods. -/
def perN : Nat → Int → Int
  | 0 => Day.day
  | 1 => Day.week
  | 2 => Day.month
  | _ => Day.year
/-- A policy's numbers. -/
structure Pol where
  d : Int
  k : Int
  m : Int
  y : Int
deriving DecidableEq, Inhabited
def Pol.num (p : Pol) : Nat → Int
  | 0 => p.d
  | 1 => p.k
  | 2 => p.m
  | _ => p.y
abbrev Pol.v (p : Pol) : Value := polV p.d p.k p.m p.y
def Pol.chk (p : Pol) : Int := polChk p.d p.k p.m p.y
/-- What is kept by the first i kinds of periods. -/
def keptN (p : Pol) (s : List One) : Nat → List One
  | 0 => []
  | i + 1 => (lastGo (perN i) (p.num i) s (keptN p s i)).kept
def keepB (p : Pol) (now : Int) (l : List Ref) (x : Ref) : Bool := p.chk != 0 || decide (now < x.u) || decide (x.one ∈ keptN p (srt (l.map Ref.one)) 4)
def keepF (p : Pol) (l : List Ref) (now : Int) : List Bool := l.map (keepB p now l)

theorem day_ok (x : Int) (h : okI x) : okI (Day.day x) := by have := day_bd x h.1 h.2; unfold okI; omega
theorem week_ok (x : Int) (h : okI x) : okI (Day.week x) := by have := day_bd x h.1 h.2; unfold okI Day.week; omega
theorem month_ok (x : Int) (h : okI x) : okI (Day.month x) := by
  have := yr_bd x h.1 h.2; have := mo_bd (Day.day x); unfold okI Day.month; omega
theorem year_ok (x : Int) (h : okI x) : okI (Day.year x) := by have := yr_bd x h.1 h.2; unfold okI Day.year; omega

theorem own_slice {w : World} {base : Nat} {e : TypeId} {size : Nat} {v : Value} {n : Nat} {xs : List Value} (h : w.ownsRow base e size v n xs) : ∃ A cap, v = .slice A n cap := by
  rcases h.2 with ⟨rfl, rfl⟩ | ⟨g, cap, cur, rfl, _⟩
  · exact ⟨_, _, rfl⟩
  · exact ⟨_, _, rfl⟩
theorem own_ne_marks {α : Type} [DecidableEq α] {t : TypeId} {dom : α → Prop} {kl : α → Lit} {w : World} {b m : Nat} {S : List α} {base : Nat} {e : TypeId} {size : Nat} {v : Value} {n : Nat} {xs : List Value}
    (h : w.ownsRow base e size v n xs) (hM : Marks t dom kl w b m S) : v.ownBlock ≠ some b := by
  obtain ⟨D, ⟨es, clock, hb, _⟩, _⟩ := hM
  rcases h.2 with ⟨rfl, _⟩ | ⟨g, cap, cur, rfl, _, hh, _⟩
  · simp [Value.ownBlock]
  · intro c
    have : g = b := by simpa [Value.ownBlock] using c
    subst this
    rw [hh] at hb; simp at hb

theorem infoBool : (Tryz.prog.info? 4).map (fun i => (i.zero, i.size, i.bytes)) = some (some (.bool false), 1, 1) := by kernel_rfl
theorem eg_day : ∀ args w, (callFunc 21 args).run Tryz.prog w = .ok (.enter 21 args) w := enters_of Tryz.func21 (by kernel_rfl) rfl
theorem eg_week : ∀ args w, (callFunc 22 args).run Tryz.prog w = .ok (.enter 22 args) w := enters_of Tryz.func22 (by kernel_rfl) rfl
theorem eg_month : ∀ args w, (callFunc 23 args).run Tryz.prog w = .ok (.enter 23 args) w := enters_of Tryz.func23 (by kernel_rfl) rfl
theorem eg_year : ∀ args w, (callFunc 24 args).run Tryz.prog w = .ok (.enter 24 args) w := enters_of Tryz.func24 (by kernel_rfl) rfl

theorem srt_mem (l : List One) (x : One) : x ∈ srt l ↔ x ∈ l := by unfold srt; exact List.mem_mergeSort
theorem srt_len (l : List One) : (srt l).length = l.length := by unfold srt; exact List.length_mergeSort _

theorem keepF_succ (p : Pol) (l : List Ref) (now : Int) (k : Nat) (h : k < l.length) : ((keepF p l now).take (k + 1)).map Value.bool = ((keepF p l now).take k).map Value.bool ++ [.bool (keepB p now l l[k])] := by
  unfold keepF
  rw [List.take_succ_eq_append_getElem (by simpa using h), List.map_append]; simp
theorem news_at (w : World) (xs : List Value) (t : TypeId) {g : Nat} (hg : g = w.heap.size) : ∀ j u, xs[j]? = some u → (w.alloc (.cells xs.toArray t)).cell? ((⟨g, 0, none⟩ : Addr).add j) = some u := by
  subst hg; exact news_cells w xs t

set_option maxRecDepth 100000 in
set_option maxHeartbeats 1000000 in
theorem keep_any (p : Pol) (l : List Ref) (hok : ∀ x ∈ l, x.ok) (now : Int) (A : Option Addr) (cap : Nat) (w : World) (hr : Reads w w.heap.size 5 A l.length (l.flatMap Ref.cs)) (hn : l.length ≤ 60) :
    Calls Tryz.prog 10 #[p.v, .slice A l.length cap, .int .i64 now] w fun e w' => ∃ v, e = .returned v ∧ w'.ownsRow w.heap.size 4 1 v l.length ((keepF p l now).map Value.bool) ∧ Below w.heap.size w w' := by
  have hmm := @run_makeMap Tryz.prog
  obtain ⟨i0, i1, i2, i3⟩ := polV_at p.d p.k p.m p.y
  obtain ⟨b0, hi0, hz0, hz1, hz2⟩ := info_parts infoBool
  go_enter Tryz.func10, Tryz.ntmps10
  go_wp2_with fail
  refine (check_any p.d p.k p.m p.y _).mono ?_; rintro e w1 ⟨rfl, hb1⟩
  have hb : Below w.heap.size w w1 := (((Below.refl _ w).alloc (Nat.le_refl _) _).alloc (by simp) _).trans (hb1.mono (by simp; omega))
  have hM : Marks 55 One.ok klO w1 (w.heap.size + 1) 0 [] := by
    have h0 := Marks.made (α := One) (w.alloc (.cells #[.int .i64 p.d, .int .i64 p.k, .int .i64 p.m, .int .i64 p.y] 23)) 55 One.ok klO
    rw [World.size_alloc] at h0
    exact h0.below hb1 (by simp)
  have hbox : w1.heap[w.heap.size]? = some (.cells #[.int .i64 p.d, .int .i64 p.k, .int .i64 p.m, .int .i64 p.y] 23 (0, 0)) :=
    (hb1.block _ (by simp; omega)).trans ((Below.heap_alloc _ _ _ (by simp)).trans (heap_alloc_new _ _))
  have hz1' : w.heap.size + 1 < w1.heap.size := hM.lt
  clear hb1 hmm
  go_wp2_with fail
  refine (sorted_any sort_says sort_none l A cap w1 ((hr.below hb).more hb.size) hn).mono ?_; rintro e w2 ⟨v, rfl, hown, hb2⟩
  obtain ⟨A2, cap2, rfl⟩ := own_slice hown
  replace hM := hM.below hb2 hz1'
  replace hbox := (hb2.block _ (by omega)).trans hbox
  replace hb := hb.trans (hb2.mono hb.size)
  have hz2' := hM.lt
  have hlt2 : w.heap.size < w2.heap.size := by omega
  have c0 : ∀ ob, (w2.alloc ob).cell? ⟨w.heap.size, 0, none⟩ = some (.int .i64 p.d) := fun ob => (World.cell?_alloc_lt w2 ob _ hlt2).trans (by simp [World.cell?, hbox])
  have c1 : ∀ ob, (w2.alloc ob).cell? ⟨w.heap.size, 1, none⟩ = some (.int .i64 p.k) := fun ob => (World.cell?_alloc_lt w2 ob _ hlt2).trans (by simp [World.cell?, hbox])
  have c2 : ∀ ob, (w2.alloc ob).cell? ⟨w.heap.size, 2, none⟩ = some (.int .i64 p.m) := fun ob => (World.cell?_alloc_lt w2 ob _ hlt2).trans (by simp [World.cell?, hbox])
  have c3 : ∀ ob, (w2.alloc ob).cell? ⟨w.heap.size, 3, none⟩ = some (.int .i64 p.y) := fun ob => (World.cell?_alloc_lt w2 ob _ hlt2).trans (by simp [World.cell?, hbox])
  clear hb2
  go_wp2_with fail
  refine (numbers_any p.d p.k p.m p.y _).mono ?_; rintro e w3 ⟨rfl, hb3⟩
  have hper : w3.heap[w2.heap.size]? = some (.cells #[.func (.func 21) #[] #[], .func (.func 22) #[] #[], .func (.func 23) #[] #[], .func (.func 24) #[] #[]] 51 (0, 0)) :=
    (hb3.block _ (by simp)).trans (heap_alloc_new _ _)
  have hb3' : Below w2.heap.size w2 w3 := ((Below.refl _ w2).alloc (Nat.le_refl _) _).trans (hb3.mono (by simp))
  replace hM := hM.below hb3' hz2'
  replace hown := ownsRow_below hown hb3' (Nat.le_refl _)
  replace hb := hb.trans (hb3'.mono hb.size)
  have hsl : (srt (l.map Ref.one)).length = l.length := by rw [srt_len, List.length_map]
  have hokS : ∀ x ∈ srt (l.map Ref.one), x.ok := by
    intro x hx
    rw [srt_mem] at hx
    obtain ⟨y, hy, rfl⟩ := List.mem_map.1 hx
    obtain ⟨a, b, c, _, _⟩ := hok y hy
    exact ⟨a, b, c⟩
  have HSL := Lib.hid hsl
  clear hb3 hb3' c0 c1 c2 c3 hbox hsl
  obtain ⟨a, ha⟩ : ∃ a, a = (polChk p.d p.k p.m p.y != 0) := ⟨_, rfl⟩
  rw [← ha]
  have HA := Lib.hid ha
  clear ha
  go_wp2_with fail
  go_loopw [25] (fun s wr => ∃ i : Nat, s = .int .i64 i ∧ i ≤ 4 ∧ Marks 55 One.ok klO wr (w.heap.size + 1) (60 * i) (keptN p (srt (l.map Ref.one)) i) ∧
      wr.ownsRow w1.heap.size 55 3 (.slice A2 l.length cap2) l.length ((srt (l.map Ref.one)).flatMap One.cs) ∧
      wr.heap[w2.heap.size]? = some (.cells #[.func (.func 21) #[] #[], .func (.func 22) #[] #[], .func (.func 23) #[] #[], .func (.func 24) #[] #[]] 51 (0, 0)) ∧ Below w.heap.size w wr)
    (fun s _ => 4 - (intOf s).toNat)
  case atStart => exact ⟨0, rfl, by omega, hM, hown, hper, hb⟩
  case round =>
    clear hM hown hper hb
    obtain ⟨i, rfl, hi, hM, hown, hper, hb⟩ := hrel
    have hsl := HSL.out
    have q0 : wr.cell? ⟨w2.heap.size, 0, none⟩ = some (.func (.func 21) #[] #[]) := by simp [World.cell?, hper]
    have q1 : wr.cell? ⟨w2.heap.size, 1, none⟩ = some (.func (.func 22) #[] #[]) := by simp [World.cell?, hper]
    have q2 : wr.cell? ⟨w2.heap.size, 2, none⟩ = some (.func (.func 23) #[] #[]) := by simp [World.cell?, hper]
    have q3 : wr.cell? ⟨w2.heap.size, 3, none⟩ = some (.func (.func 24) #[] #[]) := by simp [World.cell?, hper]
    rcases (show i = 0 ∨ i = 1 ∨ i = 2 ∨ i = 3 ∨ i = 4 from by omega) with rfl | rfl | rfl | rfl | rfl
    case inl =>
      have hc := last_any 21 (perN 0) eg_day (fun x w h => day_any x w h.1 h.2) day_ok (srt (l.map Ref.one)) hokS A2 cap2 (p.num 0) (w.heap.size + 1) (60 * 0) (keptN p (srt (l.map Ref.one)) 0) wr (by rw [hsl]; exact Reads.of_own hown) (by rw [hsl]; exact hn) hM (by omega)
      rw [hsl] at hc
      have hblt := hM.lt
      go_wp2_with fail
      refine hc.mono ?_; rintro e w4 ⟨rfl, hM4, hg4⟩
      have hown4 := hown.kept hg4 (.inr (own_ne_marks hown hM))
      have hper4 := (hg4.block w2.heap.size (Array.getElem?_eq_some_iff.1 hper).1 (fun e => by injection e with e; omega)).trans hper
      have hb4 := hb.grown hg4 hb.size (fun j hj => by cases hj; omega)
      clear hc hown hM hper hb hg4 q0 q1 q2 q3
      go_wp2_with fail
      go_roundw
      case rel => exact ⟨0 + 1, rfl, by omega, hM4, hown4, hper4, hb4⟩
      case measure => simp [intOf]
    case inr.inl =>
      have hc := last_any 22 (perN 1) eg_week (fun x w h => week_any x w h.1 h.2) week_ok (srt (l.map Ref.one)) hokS A2 cap2 (p.num 1) (w.heap.size + 1) (60 * 1) (keptN p (srt (l.map Ref.one)) 1) wr (by rw [hsl]; exact Reads.of_own hown) (by rw [hsl]; exact hn) hM (by omega)
      rw [hsl] at hc
      have hblt := hM.lt
      go_wp2_with fail
      refine hc.mono ?_; rintro e w4 ⟨rfl, hM4, hg4⟩
      have hown4 := hown.kept hg4 (.inr (own_ne_marks hown hM))
      have hper4 := (hg4.block w2.heap.size (Array.getElem?_eq_some_iff.1 hper).1 (fun e => by injection e with e; omega)).trans hper
      have hb4 := hb.grown hg4 hb.size (fun j hj => by cases hj; omega)
      clear hc hown hM hper hb hg4 q0 q1 q2 q3
      go_wp2_with fail
      go_roundw
      case rel => exact ⟨1 + 1, rfl, by omega, hM4, hown4, hper4, hb4⟩
      case measure => simp [intOf]
    case inr.inr.inl =>
      have hc := last_any 23 (perN 2) eg_month (fun x w h => month_any x w h.1 h.2) month_ok (srt (l.map Ref.one)) hokS A2 cap2 (p.num 2) (w.heap.size + 1) (60 * 2) (keptN p (srt (l.map Ref.one)) 2) wr (by rw [hsl]; exact Reads.of_own hown) (by rw [hsl]; exact hn) hM (by omega)
      rw [hsl] at hc
      have hblt := hM.lt
      go_wp2_with fail
      refine hc.mono ?_; rintro e w4 ⟨rfl, hM4, hg4⟩
      have hown4 := hown.kept hg4 (.inr (own_ne_marks hown hM))
      have hper4 := (hg4.block w2.heap.size (Array.getElem?_eq_some_iff.1 hper).1 (fun e => by injection e with e; omega)).trans hper
      have hb4 := hb.grown hg4 hb.size (fun j hj => by cases hj; omega)
      clear hc hown hM hper hb hg4 q0 q1 q2 q3
      go_wp2_with fail
      go_roundw
      case rel => exact ⟨2 + 1, rfl, by omega, hM4, hown4, hper4, hb4⟩
      case measure => simp [intOf]
    case inr.inr.inr.inl =>
      have hc := last_any 24 (perN 3) eg_year (fun x w h => year_any x w h.1 h.2) year_ok (srt (l.map Ref.one)) hokS A2 cap2 (p.num 3) (w.heap.size + 1) (60 * 3) (keptN p (srt (l.map Ref.one)) 3) wr (by rw [hsl]; exact Reads.of_own hown) (by rw [hsl]; exact hn) hM (by omega)
      rw [hsl] at hc
      have hblt := hM.lt
      go_wp2_with fail
      refine hc.mono ?_; rintro e w4 ⟨rfl, hM4, hg4⟩
      have hown4 := hown.kept hg4 (.inr (own_ne_marks hown hM))
      have hper4 := (hg4.block w2.heap.size (Array.getElem?_eq_some_iff.1 hper).1 (fun e => by injection e with e; omega)).trans hper
      have hb4 := hb.grown hg4 hb.size (fun j hj => by cases hj; omega)
      clear hc hown hM hper hb hg4 q0 q1 q2 q3
      go_wp2_with fail
      go_roundw
      case rel => exact ⟨3 + 1, rfl, by omega, hM4, hown4, hper4, hb4⟩
      case measure => simp [intOf]
    case inr.inr.inr.inr =>
      clear q0 q1 q2 q3 hper hown HSL hsl
      rw [show ((4 : Nat) : Int) = 4 from rfl]
      go_wp2_with fail
      obtain ⟨wo, rfl⟩ : ∃ wo : World, wo = wr := ⟨_, rfl⟩
      go_loopw [13, 40] (fun v s wr => ∃ k : Nat, s = .int .i64 k ∧ k ≤ l.length ∧ wr.ownsRow w.heap.size 4 1 v k (((keepF p l now).take k).map Value.bool) ∧
          Marks 55 One.ok klO wr (w.heap.size + 1) 240 (keptN p (srt (l.map Ref.one)) 4) ∧ Below w.heap.size w wr)
        (fun _ s _ => l.length - (intOf s).toNat)
      case atStart => exact ⟨0, rfl, Nat.zero_le _, World.ownsRow_nil _ _ _ _, hM, hb⟩
      case round =>
        clear hM hb
        obtain ⟨k, rfl, hk, hown, hM, hb⟩ := hrel
        by_cases hlt : k < l.length
        · obtain ⟨b, o, x, rfl, hx, hbl, c0, c1, c2, c3, c4⟩ := (hr.below hb).ref rfl hlt
          have hxo : x.one.ok := by
            obtain ⟨q0, q1, q2, _, _⟩ := hok x (by rw [hx]; exact List.getElem_mem _)
            exact ⟨q0, q1, q2⟩
          have HX := Lib.hid hx
          clear hx
          have hownW := hown.alloc (.cells x.cs.toArray 34)
          have hMW := hM.alloc (.cells x.cs.toArray 34)
          have hbW := hb.alloc hb.size (.cells x.cs.toArray 34)
          clear hown hM hb
          cases a with
          | true =>
            go_wp2_with (at_builtin; refine wpList_append_own_at _ rfl (.tmp 44) (.tmp 58) 31 rfl w.heap.size 4 b0 _ 1 1 Tryz.underlying31 hi0 hz0 hz1 hz2 rfl (by omega) _ _ _ rfl (hownW.alloc _) ⟨wr.heap.size + 1, 0, none⟩ 1 1 [.bool true] rfl rfl (news_at _ _ _ (by simp)) (by simp [Value.oneCell']) (by unfold maxLen; omega) (by omega) (by exact (hbW.alloc hbW.size _).size) ?_; intro v' w6 hown6 hgrow6 _ _)
            have hM6 := (hMW.alloc _).kept hgrow6 (fun e => own_ne_marks hownW hMW e.symm)
            have hb6 := (hbW.alloc hbW.size _).grown hgrow6 (hbW.alloc hbW.size _).size (fun j hj => (hownW.lt j hj).1)
            clear hMW hownW hbW hgrow6
            go_roundw
            case rel =>
              refine ⟨k + 1, by go_num, by omega, ?_, hM6, hb6⟩
              rw [keepF_succ p l now k hlt, ← HX.out, show keepB p now l x = true from by unfold keepB Pol.chk; rw [← HA.out]; simp]
              exact hown6
            case measure => simp [intOf]; omega
          | false =>
            by_cases hu : now < x.u
            · go_wp2_with (at_builtin; refine wpList_append_own_at _ rfl (.tmp 44) (.tmp 58) 31 rfl w.heap.size 4 b0 _ 1 1 Tryz.underlying31 hi0 hz0 hz1 hz2 rfl (by omega) _ _ _ rfl (hownW.alloc _) ⟨wr.heap.size + 1, 0, none⟩ 1 1 [.bool true] rfl rfl (news_at _ _ _ (by simp)) (by simp [Value.oneCell']) (by unfold maxLen; omega) (by omega) (by exact (hbW.alloc hbW.size _).size) ?_; intro v' w6 hown6 hgrow6 _ _)
              have hM6 := (hMW.alloc _).kept hgrow6 (fun e => own_ne_marks hownW hMW e.symm)
              have hb6 := (hbW.alloc hbW.size _).grown hgrow6 (hbW.alloc hbW.size _).size (fun j hj => (hownW.lt j hj).1)
              clear hMW hownW hbW hgrow6
              go_roundw
              case rel =>
                refine ⟨k + 1, by go_num, by omega, ?_, hM6, hb6⟩
                rw [keepF_succ p l now k hlt, ← HX.out, show keepB p now l x = true from by unfold keepB; simp [hu]]
                exact hown6
              case measure => simp [intOf]; omega
            · go_wp2_with fail
              refine (of_any x _).mono ?_; rintro e w5 ⟨rfl, hb5⟩
              replace hownW := ownsRow_below hownW hb5 (Nat.le_refl _)
              replace hMW := hMW.below hb5 hMW.lt
              replace hbW := hbW.trans (hb5.mono hbW.size)
              have hlk := hMW.look keysO Tryz.underlying48 hxo
              clear hb5 c0 c1 c2 c3 c4
              generalize hdd : decide (x.one ∈ keptN p (srt (l.map Ref.one)) 4) = dd at *
              have HD := Lib.hid hdd
              clear hdd
              go_wp2_with (at_builtin; refine wpList_append_own_at _ rfl (.tmp 44) (.tmp 58) 31 rfl w.heap.size 4 b0 _ 1 1 Tryz.underlying31 hi0 hz0 hz1 hz2 rfl (by omega) _ _ _ rfl (hownW.alloc _) ⟨w5.heap.size, 0, none⟩ 1 1 [.bool dd] rfl rfl (news_at _ _ _ (by simp)) (by simp [Value.oneCell']) (by unfold maxLen; omega) (by omega) (by exact (hbW.alloc hbW.size _).size) ?_; intro v' w6 hown6 hgrow6 _ _)
              have hM6 := (hMW.alloc _).kept hgrow6 (fun e => own_ne_marks hownW hMW e.symm)
              have hb6 := (hbW.alloc hbW.size _).grown hgrow6 (hbW.alloc hbW.size _).size (fun j hj => (hownW.lt j hj).1)
              clear hMW hownW hbW hgrow6
              go_roundw
              case rel =>
                refine ⟨k + 1, by go_num, by omega, ?_, hM6, hb6⟩
                rw [keepF_succ p l now k hlt, ← HX.out, show keepB p now l x = dd from by unfold keepB Pol.chk; rw [← HA.out, HD.out, decide_eq_false (show ¬ now < x.u from by omega)]; simp]
                exact hown6
              case measure => simp [intOf]; omega
        · have hkl : k = l.length := by omega
          subst hkl
          go_wp2_with fail
          go_ret
          refine ⟨_, rfl, ?_, hb⟩
          rw [List.take_of_length_le (by simp [keepF])] at hown
          exact hown

end Go.Proofs.YtgelaffifjicoaaGreatDoor
