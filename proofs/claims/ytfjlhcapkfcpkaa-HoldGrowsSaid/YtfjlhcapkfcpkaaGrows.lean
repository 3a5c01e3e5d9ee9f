/-
  HoldGrows: the plain law and the walk.
-/
import Derived.Deep.RegionHeld3
import Derived.Deep.DeepCutAuto
import Derived.Test.YtfjlhcapkfcpkaaBeside
import Derived.Test.YtfjlhcapkfcpkaaSmall
namespace Go.Proofs.Ytfjlhcapkfcpkaa
open Go.RowKit
set_option linter.unusedSimpArgs false
set_option linter.unusedVariables false

theorem setRow_grows (r : Root) (mach : ByteArray) (n u : Int) (h : r.setErr mach n u = 0) (j : Nat) (hj : j < r.refs.length) (hj' : j < (r.setRow mach n u).length) : r.refs[j].u ≤ (r.setRow mach n u)[j].u := by
  obtain ⟨k, x, hk, hx, hu, hxu⟩ := setErr_cases r mach n u h
  have hrow : r.setRow mach n u = r.refs.modify k fun x => { x with u := u } := by unfold Root.setRow; rw [hk]
  simp only [hrow, List.getElem_modify]
  split
  · rename_i e
    subst e
    rw [List.getElem?_eq_getElem hj] at hx
    injection hx with hx
    rw [hx]
    show x.u ≤ u
    omega
  · exact Int.le_refl _
/-- A root with other snapshots. -/
abbrev Root.put (r : Root) (A : Option Addr) (cap : Nat) (L : List Ref) : Root := ⟨r.n, r.now, A, cap, L, r.A3, r.n3, r.c3, r.pol, r.A8, r.n8, r.c8⟩
abbrev pairCs (p : Int × Int) : List Value := [.int .i64 p.1, .int .i64 p.2]
theorem Reads.pair {w : World} {B : Nat} {A : Option Addr} {n : Nat} {l : List (Int × Int)} (h : Reads w B 2 A n (l.flatMap pairCs)) (hl : l.length = n) {i : Nat} (hi : i < l.length) :
    ∃ b o, A = some ⟨b, o, none⟩ ∧ b < B ∧ w.cell? ⟨b, o + i * 2, none⟩ = some (.int .i64 l[i].1) ∧ w.cell? ⟨b, o + i * 2 + 1, none⟩ = some (.int .i64 l[i].2) := by
  obtain ⟨b, o, hA, hb, hc⟩ := Reads.elem (k := 2) (f := pairCs) (fun _ => rfl) (by omega) h hl hi
  exact ⟨b, o, hA, hb, hc 0 (by omega), hc 1 (by omega)⟩

theorem hset_bad (r : Root) (mach : ByteArray) (n u : Int) (w : World) (hf : r.fits w w.heap.size) (he : r.setErr mach n u ≠ 0) :
    Calls Try.prog 12 #[r.v, .string mach, .int .i64 n, .int .i64 u] w fun e w' => e = .returned (.tuple #[.agg #[.int .i64 0, .int .i64 0, .slice none 0 0, .slice none 0 0, .int .i64 0, .int .i64 0, .int .i64 0, .int .i64 0, .slice none 0 0], .int .i64 (r.setErr mach n u)]) ∧ Below w.heap.size w w' :=
  (hset_any r mach n u w hf).mono fun e w' ⟨h1, _, h3⟩ => ⟨h1 he, h3⟩
theorem hset_good (r : Root) (mach : ByteArray) (n u : Int) (w : World) (hf : r.fits w w.heap.size) (he : r.setErr mach n u = 0) :
    Calls Try.prog 12 #[r.v, .string mach, .int .i64 n, .int .i64 u] w fun e w' => (∃ g cap', e = .returned (.tuple #[.agg #[.int .i64 r.n, .int .i64 r.now, .slice (some ⟨g, 0, none⟩) r.refs.length cap', .slice r.A3 r.n3 r.c3, .int .i64 r.pol.d, .int .i64 r.pol.k, .int .i64 r.pol.m, .int .i64 r.pol.y, .slice r.A8 r.n8 r.c8], .int .i64 0]) ∧
        w'.ownsRow w.heap.size 38 5 (.slice (some ⟨g, 0, none⟩) r.refs.length cap') r.refs.length ((r.setRow mach n u).flatMap Ref.cs)) ∧ Below w.heap.size w w' :=
  (hset_any r mach n u w hf).mono fun e w' ⟨_, h2, h3⟩ => ⟨h2 he, h3⟩

theorem stay_held (r : Root) {x : Ref} (hx : x ∈ r.refs) (hu : r.now < x.u) : x ∈ r.stay := by
  rw [stay_eq, List.mem_filter]
  refine ⟨hx, ?_⟩
  unfold keepB
  simp [hu]
theorem fill_size0 (W : World) (l : List (Addr × Value)) : (stores W l).heap.size = W.heap.size := (stores_same l W).2.2.2
theorem Reads.fill {W : World} {B n : Nat} {A : Option Addr} {xs : List Value} (h : Reads W B 5 A n xs) {p : Nat} (hne : ∀ ad, A = some ad → ad.block ≠ p) (l : List Value) : Reads (stores W (fill p 0 l)) B 5 A n xs :=
  ⟨h.1, fun hn => by
    obtain ⟨ad, e, hb, hc⟩ := h.2 hn
    refine ⟨ad, e, hb, fun j u hu => ?_⟩
    rw [← hc j u hu]
    exact World.cell?_of_block (stores_heap _ _ _ (fun x hx => by rw [fill_block _ _ _ _ hx, block_of_add]; exact fun e' => hne ad e e'.symm))⟩
theorem Reads.set_far {W : World} {B n : Nat} {A : Option Addr} {xs : List Value} (h : Reads W B 5 A n xs) {p : Addr} (hne : ∀ ad, A = some ad → ad.block ≠ p.block) (u : Value) : Reads (W.setCell p u) B 5 A n xs :=
  ⟨h.1, fun hn => by
    obtain ⟨ad, e, hb, hc⟩ := h.2 hn
    refine ⟨ad, e, hb, fun j v hv => ?_⟩
    rw [← hc j v hv]
    exact World.cell?_of_block (Below.heap_setCell W p u _ (by rw [block_of_add]; exact hne ad e))⟩
theorem fieldG_refs (W : World) (c0 c1 c2 c3 c4 c5 c6 c7 c8 : Value) : (Instr.field 28 (.agg #[c0, c1, c2, c3, c4, c5, c6, c7, c8]) 2).run Try.prog W = .ok c2 W := by
  kernel_rfl

/-- What 'y, e := hold.Set(x, ..)' leaves. -/
def SetLeft (x : Root) (mach : ByteArray) (n u : Int) (X : Nat) (W : World) (a b : Value) (wx : World) : Prop :=
  ∃ q, a = .pointer (some ⟨q, 0, none⟩) ∧ Below W.heap.size W wx ∧ W.heap.size ≤ q ∧ b = .int .i64 (x.setErr mach n u) ∧
    (x.setErr mach n u = 0 → ∃ g cap', g ≠ X ∧ Blk wx q 28 #[.int .i64 x.n, .int .i64 x.now, .slice (some ⟨g, 0, none⟩) x.refs.length cap', .slice x.A3 x.n3 x.c3, .int .i64 x.pol.d, .int .i64 x.pol.k, .int .i64 x.pol.m, .int .i64 x.pol.y, .slice x.A8 x.n8 x.c8] ∧
      Reads wx wx.heap.size 5 (some ⟨g, 0, none⟩) x.refs.length ((x.setRow mach n u).flatMap Ref.cs))

set_option maxRecDepth 100000 in
set_option maxHeartbeats 2000000 in
theorem grows_any (r : Root) (As : Option Addr) (cs : Nat) (ps : List (Int × Int)) (lt : Int) (hlt : 0 ≤ lt ∧ lt < 65536) (hps : ∀ p ∈ ps, okI p.1 ∧ okI p.2) (hpl : ps.length ≤ maxLen) (w : World) (hrs : Reads w w.heap.size 2 As ps.length (ps.flatMap pairCs))
    (hr : Reads w w.heap.size 5 r.A r.refs.length (r.refs.flatMap Ref.cs)) (hok : ∀ x ∈ r.refs, x.ok) (hlen : r.refs.length ≤ maxLen) :
    Calls Try.prog 8 #[r.v, .slice As ps.length cs, .int .u16 lt] w fun e w' => e = .returned (.bool true) ∧ Below w.heap.size w w' := by
  have HRS := Lib.hid hrs
  clear hrs
  go_enter Try.func8, Try.ntmps8
  have bR := Blk.new w 28 #[.int .i64 r.n, .int .i64 r.now, .slice r.A r.refs.length r.cap, .slice r.A3 r.n3 r.c3, .int .i64 r.pol.d, .int .i64 r.pol.k, .int .i64 r.pol.m, .int .i64 r.pol.y, .slice r.A8 r.n8 r.c8]
  have hb0 : Below w.heap.size w (w.alloc (.cells #[.int .i64 r.n, .int .i64 r.now, .slice r.A r.refs.length r.cap, .slice r.A3 r.n3 r.c3, .int .i64 r.pol.d, .int .i64 r.pol.k, .int .i64 r.pol.m, .int .i64 r.pol.y, .slice r.A8 r.n8 r.c8] 28)) := (Below.refl _ _).alloc (Nat.le_refl _) _
  have HRD := Lib.hid hr
  clear hr
  go_wp2_with fail
  refine (alive_any _).mono ?_; rintro e w1 ⟨rfl, hb1⟩
  have bR1 := bR.below hb1 (by simp)
  have hb1' := hb0.trans (hb1.mono hb0.size)
  clear bR hb0 hb1
  have c2 := bR1.cell 2
  simp only [List.getElem?_toArray, List.getElem?_cons_zero, List.getElem?_cons_succ] at c2
  go_wp2_with fail
  refine (great_any r.refs r.A r.cap _ ((HRD.out.below hb1').more hb1'.size) hlen).mono ?_; rintro e w2 ⟨⟨v, rfl, hv⟩, hb2⟩
  have bR2 := bR1.below hb2 bR1.lt
  have hb2' := hb1'.trans (hb2.mono hb1'.size)
  clear bR1 hb1' hb2 c2
  have r0 := bR2.cell 0; have r1 := bR2.cell 1; have r2 := bR2.cell 2; have r3 := bR2.cell 3; have r4 := bR2.cell 4; have r5 := bR2.cell 5; have r6 := bR2.cell 6; have r7 := bR2.cell 7; have r8 := bR2.cell 8
  simp only [List.getElem?_toArray, List.getElem?_cons_zero, List.getElem?_cons_succ] at r0 r1 r2 r3 r4 r5 r6 r7 r8
  rcases hv with rfl | ⟨rfl, hfew⟩
  · go_wp2_with fail
    go_ret
    exact ⟨rfl, hb2'⟩
  by_cases hz : r.refs.length = 0
  · have hz' : ((r.refs.length : Int) == 0) = true := by simp [hz]
    rw [hz] at r2
    go_wp2_with fail
    go_ret
    exact ⟨rfl, hb2'⟩
  have hz' : ((r.refs.length : Int) == 0) = false := by rw [beq_eq_false_iff_ne]; omega
  have hz0 : ¬ (r.refs.length : Int) = 0 := by omega
  by_cases hp20 : (20 : Int) < ps.length
  · go_wp2_with fail
    go_ret
    exact ⟨rfl, hb2'⟩
  by_cases hn1 : (1099511627776 : Int) < r.now
  · go_wp2_with fail
    go_ret
    exact ⟨rfl, hb2'⟩
  by_cases hn2 : r.now < (-1099511627776 : Int)
  · go_wp2_with fail
    go_ret
    exact ⟨rfl, hb2'⟩
  have bX := Blk.new w2 28 #[.int .i64 r.n, .int .i64 r.now, .slice r.A r.refs.length r.cap, .slice r.A3 r.n3 r.c3, .int .i64 r.pol.d, .int .i64 r.pol.k, .int .i64 r.pol.m, .int .i64 r.pol.y, .slice r.A8 r.n8 r.c8]
  have bR3 := bR2.alloc (.cells #[.int .i64 r.n, .int .i64 r.now, .slice r.A r.refs.length r.cap, .slice r.A3 r.n3 r.c3, .int .i64 r.pol.d, .int .i64 r.pol.k, .int .i64 r.pol.m, .int .i64 r.pol.y, .slice r.A8 r.n8 r.c8] 28)
  have hb3 := hb2'.alloc hb2'.size (.cells #[.int .i64 r.n, .int .i64 r.now, .slice r.A r.refs.length r.cap, .slice r.A3 r.n3 r.c3, .int .i64 r.pol.d, .int .i64 r.pol.k, .int .i64 r.pol.m, .int .i64 r.pol.y, .slice r.A8 r.n8 r.c8] 28)
  have hwz : w.heap.size < w2.heap.size := bR2.lt
  have HX3 := Lib.hid bX; have HR3 := Lib.hid bR3; have HB3 := Lib.hid hb3
  clear bX bR3 hb3 bR2 hb2'
  go_wp2_with fail
  clear r0 r1 r2 r3 r4 r5 r6 r7 r8
  obtain ⟨W3, hW3⟩ : ∃ W, W = w2.alloc (.cells #[.int .i64 r.n, .int .i64 r.now, .slice r.A r.refs.length r.cap, .slice r.A3 r.n3 r.c3, .int .i64 r.pol.d, .int .i64 r.pol.k, .int .i64 r.pol.m, .int .i64 r.pol.y, .slice r.A8 r.n8 r.c8] 28) := ⟨_, rfl⟩
  have hs3 : W3.heap.size = w2.heap.size + 1 := by rw [hW3]; simp
  rw [← hW3] at HX3 HR3 HB3 ⊢
  clear hW3
  go_loopw [8] (fun i wr => ∃ (k : Nat) (A : Option Addr) (cap : Nat) (L : List Ref), i = .int .i64 k ∧ k ≤ ps.length ∧ L.length = r.refs.length ∧ (∀ y ∈ L, y.ok) ∧
      Blk wr w2.heap.size 28 #[.int .i64 r.n, .int .i64 r.now, .slice A L.length cap, .slice r.A3 r.n3 r.c3, .int .i64 r.pol.d, .int .i64 r.pol.k, .int .i64 r.pol.m, .int .i64 r.pol.y, .slice r.A8 r.n8 r.c8] ∧ Reads wr wr.heap.size 5 A L.length (L.flatMap Ref.cs) ∧ (∀ ad, A = some ad → ad.block ≠ w2.heap.size) ∧ Below w2.heap.size W3 wr)
    (fun i _ => ps.length - (intOf i).toNat)
  case atStart =>
    refine ⟨0, r.A, r.cap, r.refs, rfl, Nat.zero_le _, rfl, hok, HX3.out, (HRD.out.below HB3.out).more HB3.out.size, ?_, Below.refl _ _⟩
    intro ad e
    obtain ⟨ad', e', hlt', _⟩ := HRD.out.2 (by omega)
    rw [e] at e'; injection e' with e'; subst e'
    omega
  case round =>
    obtain ⟨k, A, cap, L, rfl, hk, hL, hLok, hX, hLR, hAX, hb⟩ := hrel
    have HLN := Lib.hid hL
    have hL60 : L.length ≤ 60 := by rw [hL]; exact hfew
    have HLR := Lib.hid hLR; have HX := Lib.hid hX; have HBW := Lib.hid hb; have HLOK := Lib.hid hLok
    have hwr := hb.size
    by_cases hkl : k < ps.length
    · have hkl' : (k : Int) < (ps.length : Int) := by omega
      obtain ⟨bs, os, hAs, hbs, e0, e1⟩ := ((HRS.out.below (HB3.out.trans (hb.mono (by omega))))).pair rfl hkl
      obtain ⟨j, hj, hjl⟩ : ∃ j : Nat, (IntKind.u64.wrap ps[k].1).tmod (r.refs.length : Int) = (j : Int) ∧ j < r.refs.length := by
        have h0 : 0 ≤ IntKind.u64.wrap ps[k].1 := by rw [IntKind.wrap_u64]; omega
        have h1 := Int.tmod_nonneg (a := IntKind.u64.wrap ps[k].1) (r.refs.length : Int) h0
        have h2 := Int.tmod_lt_of_pos (IntKind.u64.wrap ps[k].1) (b := (r.refs.length : Int)) (by omega)
        exact ⟨((IntKind.u64.wrap ps[k].1).tmod (r.refs.length : Int)).toNat, by omega, by omega⟩
      have hwl : IntKind.u64.wrap (r.refs.length : Int) = (r.refs.length : Int) := by rw [IntKind.wrap_u64]; omega
      have hwj : IntKind.i64.wrap (j : Int) = (j : Int) := by rw [IntKind.wrap_i64]; omega
      have c2 := (HR3.out.below hb hwz).cell 2
      simp only [List.getElem?_toArray, List.getElem?_cons_zero, List.getElem?_cons_succ] at c2
      have hupd : okI ps[k].2 := (hps _ (List.getElem_mem hkl)).2
      generalize hpk : ps[k] = pk at *
      subst hAs
      clear hpk hX hLR hb hLok hL
      go_wp2_with fail
      go_quiet (fail)
      go_wp2_with fail
      obtain ⟨b, o, x, hA, hx, hbl, d0, d1, d2, d3, d4⟩ := HLR.out.ref rfl (show j < L.length by rw [HLN.out]; exact hjl)
      have hjl' : (j : Int) < (L.length : Int) := by have := HLN.out; omega
      obtain ⟨W, hW⟩ : ∃ W, W = wr.drewN nq := ⟨_, rfl⟩
      have hWs : W.heap.size = wr.heap.size := by rw [hW]; rfl
      have hXW : Blk W w2.heap.size 28 #[.int .i64 r.n, .int .i64 r.now, .slice A L.length cap, .slice r.A3 r.n3 r.c3, .int .i64 r.pol.d, .int .i64 r.pol.k, .int .i64 r.pol.m, .int .i64 r.pol.y, .slice r.A8 r.n8 r.c8] := by rw [hW]; exact HX.out
      have hLW : Reads W W.heap.size 5 A L.length (L.flatMap Ref.cs) := by rw [hW]; exact HLR.out
      have hBW : Below w2.heap.size W3 W := by rw [hW]; exact below_drewN HBW.out _
      replace d0 : W.cell? ⟨b, o + j * 5, none⟩ = some (.string x.m) := by rw [hW]; exact d0
      replace d1 : W.cell? ⟨b, o + j * 5 + 1, none⟩ = some (.int .i64 x.n) := by rw [hW]; exact d1
      replace e1 : W.cell? ⟨bs, os + k * 2 + 1, none⟩ = some (.int .i64 pk.2) := by rw [hW]; exact e1
      have HXW := Lib.hid hXW; have HLW := Lib.hid hLW; have HBW2 := Lib.hid hBW; have HX0 := Lib.hid hx; have HA := Lib.hid hA; have HAX := Lib.hid hAX
      have hbW : b < W.heap.size := by omega
      have hbsW : bs < W.heap.size := by omega
      have hxb : w2.heap.size < W.heap.size := hXW.lt
      have hst : ∀ (u : Int), (r.put A cap L).setErr x.m x.n u = (r.put A cap L).setErr x.m x.n u := fun _ => rfl
      subst hA
      rw [← hW]
      have HWS := Lib.hid hWs
      clear hW HX HLR HBW hx hXW hLW hBW hAX d2 d3 d4 e0 c2 hst hWs
      go_cut [10, 11] from 63 to 83 (fun v1 v2 wx => SetLeft (r.put (some ⟨b, o, none⟩) cap L) x.m x.n pk.2 w2.heap.size W v1 v2 wx)
      case first =>
        have hS : ∀ w' : World, Below W.heap.size W w' → w'.cell? ⟨w2.heap.size, 0, none⟩ = some (.int .i64 r.n) ∧ w'.cell? ⟨w2.heap.size, 1, none⟩ = some (.int .i64 r.now) ∧ w'.cell? ⟨w2.heap.size, 2, none⟩ = some (.slice (some ⟨b, o, none⟩) L.length cap) ∧ w'.cell? ⟨w2.heap.size, 3, none⟩ = some (.slice r.A3 r.n3 r.c3) ∧ w'.cell? ⟨w2.heap.size, 4, none⟩ = some (.int .i64 r.pol.d) ∧ w'.cell? ⟨w2.heap.size, 5, none⟩ = some (.int .i64 r.pol.k) ∧ w'.cell? ⟨w2.heap.size, 6, none⟩ = some (.int .i64 r.pol.m) ∧ w'.cell? ⟨w2.heap.size, 7, none⟩ = some (.int .i64 r.pol.y) ∧ w'.cell? ⟨w2.heap.size, 8, none⟩ = some (.slice r.A8 r.n8 r.c8) ∧ w'.cell? ⟨b, o + j * 5, none⟩ = some (.string x.m) ∧ w'.cell? ⟨b, o + j * 5 + 1, none⟩ = some (.int .i64 x.n) ∧ w'.cell? ⟨bs, os + k * 2 + 1, none⟩ = some (.int .i64 pk.2) := by
          intro w' hb
          have bX := HXW.out.below hb hxb
          exact ⟨bX.cell 0, bX.cell 1, bX.cell 2, bX.cell 3, bX.cell 4, bX.cell 5, bX.cell 6, bX.cell 7, bX.cell 8, (hb.cell (p := ⟨b, o + j * 5, none⟩) hbW).trans d0, (hb.cell (p := ⟨b, o + j * 5 + 1, none⟩) hbW).trans d1, (hb.cell (p := ⟨bs, os + k * 2 + 1, none⟩) hbsW).trans e1⟩
        have HSS := Lib.hid hS
        clear hS
        have hcz := Below.refl W.heap.size W
        have hX : w2.heap.size < W.heap.size := hxb
        by_cases he : (r.put (some ⟨b, o, none⟩) cap L).setErr x.m x.n pk.2 = 0
        · have HE := Lib.hid he
          clear he
          go_region_held3 (fun w' => w'.cell? ⟨w2.heap.size, 0, none⟩ = some (.int .i64 r.n) ∧ w'.cell? ⟨w2.heap.size, 1, none⟩ = some (.int .i64 r.now) ∧ w'.cell? ⟨w2.heap.size, 2, none⟩ = some (.slice (some ⟨b, o, none⟩) L.length cap) ∧ w'.cell? ⟨w2.heap.size, 3, none⟩ = some (.slice r.A3 r.n3 r.c3) ∧ w'.cell? ⟨w2.heap.size, 4, none⟩ = some (.int .i64 r.pol.d) ∧ w'.cell? ⟨w2.heap.size, 5, none⟩ = some (.int .i64 r.pol.k) ∧ w'.cell? ⟨w2.heap.size, 6, none⟩ = some (.int .i64 r.pol.m) ∧ w'.cell? ⟨w2.heap.size, 7, none⟩ = some (.int .i64 r.pol.y) ∧ w'.cell? ⟨w2.heap.size, 8, none⟩ = some (.slice r.A8 r.n8 r.c8) ∧ w'.cell? ⟨b, o + j * 5, none⟩ = some (.string x.m) ∧ w'.cell? ⟨b, o + j * 5 + 1, none⟩ = some (.int .i64 x.n) ∧ w'.cell? ⟨bs, os + k * 2 + 1, none⟩ = some (.int .i64 pk.2)) ((refine HSS.out _ ?_; (repeat' (first | (with_reducible exact Below.refl _ _) | (with_reducible exact hca) | (with_reducible exact hcz) | (with_reducible refine Below.drew ?_) | (with_reducible refine Below.setCell ?_ ?_ _) | (with_reducible refine Below.alloc ?_ ?_ _) | exact Nat.le_refl _ | exact hcs | (simp; done) | (simp; omega)))))
            (first | (go_at_call 12; refine (hset_good (r.put (some ⟨b, o, none⟩) cap L) x.m x.n pk.2 _ ?_ HE.out).mono ?_; (first | exact ⟨HLW.out, HLOK.out, by show L.length ≤ 60; rw [HLN.out]; exact hfew⟩ | exact ⟨(HLW.out.below ((Below.refl W.heap.size W).alloc (Nat.le_refl _) (.cells #[.int .i64 0, .int .i64 0, .slice none 0 0, .slice none 0 0, .int .i64 0, .int .i64 0, .int .i64 0, .int .i64 0, .slice none 0 0] 28))).more (by simp), HLOK.out, by show L.length ≤ 60; rw [HLN.out]; exact hfew⟩); rintro e wa ⟨⟨g, cap', rfl, ho⟩, hba⟩; have hca : Below W.heap.size W wa := (by first | exact below_like hba (a' := W) (b' := wa) | exact ((Below.refl W.heap.size W).alloc (Nat.le_refl _) (.cells #[.int .i64 0, .int .i64 0, .slice none 0 0, .slice none 0 0, .int .i64 0, .int .i64 0, .int .i64 0, .int .i64 0, .slice none 0 0] 28)).trans ((below_like hba (a' := W.alloc (.cells #[.int .i64 0, .int .i64 0, .slice none 0 0, .slice none 0 0, .int .i64 0, .int .i64 0, .int .i64 0, .int .i64 0, .slice none 0 0] 28)) (b' := wa)).mono (by simp))); have hcs := hca.size; try (have bZ : Blk wa W.heap.size 28 #[.int .i64 0, .int .i64 0, .slice none 0 0, .slice none 0 0, .int .i64 0, .int .i64 0, .int .i64 0, .int .i64 0, .slice none 0 0] := Blk.below (Blk.new W 28 #[.int .i64 0, .int .i64 0, .slice none 0 0, .slice none 0 0, .int .i64 0, .int .i64 0, .int .i64 0, .int .i64 0, .slice none 0 0]) (below_like hba (a' := W.alloc (.cells #[.int .i64 0, .int .i64 0, .slice none 0 0, .slice none 0 0, .int .i64 0, .int .i64 0, .int .i64 0, .int .i64 0, .slice none 0 0] 28)) (b' := wa)) (by simp); have z0 := bZ.cell 0; have z1 := bZ.cell 1; have z2 := bZ.cell 2; have z3 := bZ.cell 3; have z4 := bZ.cell 4; have z5 := bZ.cell 5; have z6 := bZ.cell 6; have z7 := bZ.cell 7; have z8 := bZ.cell 8; have f0 := bZ.frozen 0; have f1 := bZ.frozen 1; have f2 := bZ.frozen 2; have f3 := bZ.frozen 3; have f4 := bZ.frozen 4; have f5 := bZ.frozen 5; have f6 := bZ.frozen 6; have f7 := bZ.frozen 7; have f8 := bZ.frozen 8; simp only [List.getElem?_toArray, List.getElem?_cons_zero, List.getElem?_cons_succ] at z0 z1 z2 z3 z4 z5 z6 z7 z8)))
          all_goals
            have hgl := (ho.lt g rfl).1
            have hgX : g ≠ w2.heap.size := by simp at hgl; omega
            go_wp2_with fail
            go_meet
            first
              | (have hq := bZ
                 change SetLeft _ _ _ _ _ _ _ _ (stores wa (fill W.heap.size 0 [.int .i64 r.n, .int .i64 r.now, .slice (some ⟨g, 0, none⟩) L.length cap', .slice r.A3 r.n3 r.c3, .int .i64 r.pol.d, .int .i64 r.pol.k, .int .i64 r.pol.m, .int .i64 r.pol.y, .slice r.A8 r.n8 r.c8]))
                 have hgW : g ≠ W.heap.size := by simp at hgl; omega
                 have HZ := filled wa W.heap.size _ _ _ _ _ _ _ _ _ _ (.int .i64 r.n) (.int .i64 r.now) (.slice (some ⟨g, 0, none⟩) L.length cap') (.slice r.A3 r.n3 r.c3) (.int .i64 r.pol.d) (.int .i64 r.pol.k) (.int .i64 r.pol.m) (.int .i64 r.pol.y) (.slice r.A8 r.n8 r.c8) bZ (Nat.le_refl _)
                 exact ⟨W.heap.size, rfl, hca.trans HZ.2, Nat.le_refl _, by rw [HE.out], fun _ => ⟨g, cap', hgX, HZ.1, Reads.of_own (stores_owns ho _ (fun p hp e => by have h1 := fill_block _ _ _ _ hp; have h2 : g = p.1.block := (by simpa [Value.ownBlock] using e); exact hgW (h2.trans h1)))⟩⟩)
              | exact ⟨wa.heap.size, rfl, hca.alloc hca.size _, hca.size, by rw [HE.out], fun _ => ⟨g, cap', hgX, Blk.new _ _ _, Reads.of_own (ho.alloc _)⟩⟩
        · have HE := Lib.hid he
          clear he
          go_region_held3 (fun w' => w'.cell? ⟨w2.heap.size, 0, none⟩ = some (.int .i64 r.n) ∧ w'.cell? ⟨w2.heap.size, 1, none⟩ = some (.int .i64 r.now) ∧ w'.cell? ⟨w2.heap.size, 2, none⟩ = some (.slice (some ⟨b, o, none⟩) L.length cap) ∧ w'.cell? ⟨w2.heap.size, 3, none⟩ = some (.slice r.A3 r.n3 r.c3) ∧ w'.cell? ⟨w2.heap.size, 4, none⟩ = some (.int .i64 r.pol.d) ∧ w'.cell? ⟨w2.heap.size, 5, none⟩ = some (.int .i64 r.pol.k) ∧ w'.cell? ⟨w2.heap.size, 6, none⟩ = some (.int .i64 r.pol.m) ∧ w'.cell? ⟨w2.heap.size, 7, none⟩ = some (.int .i64 r.pol.y) ∧ w'.cell? ⟨w2.heap.size, 8, none⟩ = some (.slice r.A8 r.n8 r.c8) ∧ w'.cell? ⟨b, o + j * 5, none⟩ = some (.string x.m) ∧ w'.cell? ⟨b, o + j * 5 + 1, none⟩ = some (.int .i64 x.n) ∧ w'.cell? ⟨bs, os + k * 2 + 1, none⟩ = some (.int .i64 pk.2)) ((refine HSS.out _ ?_; (repeat' (first | (with_reducible exact Below.refl _ _) | (with_reducible exact hca) | (with_reducible exact hcz) | (with_reducible refine Below.drew ?_) | (with_reducible refine Below.setCell ?_ ?_ _) | (with_reducible refine Below.alloc ?_ ?_ _) | exact Nat.le_refl _ | exact hcs | (simp; done) | (simp; omega)))))
            (first | (go_at_call 12; refine (hset_bad (r.put (some ⟨b, o, none⟩) cap L) x.m x.n pk.2 _ ?_ HE.out).mono ?_; (first | exact ⟨HLW.out, HLOK.out, by show L.length ≤ 60; rw [HLN.out]; exact hfew⟩ | exact ⟨(HLW.out.below ((Below.refl W.heap.size W).alloc (Nat.le_refl _) (.cells #[.int .i64 0, .int .i64 0, .slice none 0 0, .slice none 0 0, .int .i64 0, .int .i64 0, .int .i64 0, .int .i64 0, .slice none 0 0] 28))).more (by simp), HLOK.out, by show L.length ≤ 60; rw [HLN.out]; exact hfew⟩); rintro e wa ⟨rfl, hba⟩; have hca : Below W.heap.size W wa := (by first | exact below_like hba (a' := W) (b' := wa) | exact ((Below.refl W.heap.size W).alloc (Nat.le_refl _) (.cells #[.int .i64 0, .int .i64 0, .slice none 0 0, .slice none 0 0, .int .i64 0, .int .i64 0, .int .i64 0, .int .i64 0, .slice none 0 0] 28)).trans ((below_like hba (a' := W.alloc (.cells #[.int .i64 0, .int .i64 0, .slice none 0 0, .slice none 0 0, .int .i64 0, .int .i64 0, .int .i64 0, .int .i64 0, .slice none 0 0] 28)) (b' := wa)).mono (by simp))); have hcs := hca.size; try (have bZ : Blk wa W.heap.size 28 #[.int .i64 0, .int .i64 0, .slice none 0 0, .slice none 0 0, .int .i64 0, .int .i64 0, .int .i64 0, .int .i64 0, .slice none 0 0] := Blk.below (Blk.new W 28 #[.int .i64 0, .int .i64 0, .slice none 0 0, .slice none 0 0, .int .i64 0, .int .i64 0, .int .i64 0, .int .i64 0, .slice none 0 0]) (below_like hba (a' := W.alloc (.cells #[.int .i64 0, .int .i64 0, .slice none 0 0, .slice none 0 0, .int .i64 0, .int .i64 0, .int .i64 0, .int .i64 0, .slice none 0 0] 28)) (b' := wa)) (by simp); have z0 := bZ.cell 0; have z1 := bZ.cell 1; have z2 := bZ.cell 2; have z3 := bZ.cell 3; have z4 := bZ.cell 4; have z5 := bZ.cell 5; have z6 := bZ.cell 6; have z7 := bZ.cell 7; have z8 := bZ.cell 8; have f0 := bZ.frozen 0; have f1 := bZ.frozen 1; have f2 := bZ.frozen 2; have f3 := bZ.frozen 3; have f4 := bZ.frozen 4; have f5 := bZ.frozen 5; have f6 := bZ.frozen 6; have f7 := bZ.frozen 7; have f8 := bZ.frozen 8; simp only [List.getElem?_toArray, List.getElem?_cons_zero, List.getElem?_cons_succ] at z0 z1 z2 z3 z4 z5 z6 z7 z8)))
          all_goals
            go_wp2_with fail
            go_meet
            first
              | (have hq := bZ
                 change SetLeft _ _ _ _ _ _ _ _ (stores wa (fill W.heap.size 0 [.int .i64 0, .int .i64 0, .slice none 0 0, .slice none 0 0, .int .i64 0, .int .i64 0, .int .i64 0, .int .i64 0, .slice none 0 0]))
                 have HZ := filled wa W.heap.size _ _ _ _ _ _ _ _ _ _ (.int .i64 0) (.int .i64 0) (.slice none 0 0) (.slice none 0 0) (.int .i64 0) (.int .i64 0) (.int .i64 0) (.int .i64 0) (.slice none 0 0) bZ (Nat.le_refl _)
                 exact ⟨W.heap.size, rfl, hca.trans HZ.2, Nat.le_refl _, rfl, fun h => absurd h HE.out⟩)
              | exact ⟨wa.heap.size, rfl, hca.alloc hca.size _, hca.size, rfl, fun h => absurd h HE.out⟩
      case rest =>
        obtain ⟨q, rfl, hbw, hq, rfl, hgood⟩ := hcut
        have hXc := HXW.out.below hbw hxb
        have HXC := Lib.hid hXc; have HBC := Lib.hid (HBW2.out.trans (hbw.mono (by omega))); have HLC := Lib.hid ((HLW.out.below hbw).more hbw.size)
        clear hbw hXc HLW HXW HBW2 HWS
        by_cases he : (r.put (some ⟨b, o, none⟩) cap L).setErr x.m x.n pk.2 = 0
        · obtain ⟨g, cap', hgX, bQ, hRd⟩ := hgood he
          have hln := setRow_len (r.put (some ⟨b, o, none⟩) cap L) x.m x.n pk.2
          have hgr := setRow_grows (r.put (some ⟨b, o, none⟩) cap L) x.m x.n pk.2 he
          have hrok := setRow_ok (r.put (some ⟨b, o, none⟩) cap L) x.m x.n pk.2 hupd HLOK.out
          rw [he]
          generalize hL' : (r.put (some ⟨b, o, none⟩) cap L).setRow x.m x.n pk.2 = L' at *
          have hln' : L'.length = L.length := hln
          have HLN' := Lib.hid hln'; have HGR := Lib.hid hgr; have HROK := Lib.hid hrok; have HRD' := Lib.hid hRd; have HQ := Lib.hid bQ
          have c2 := HXC.out.cell 2; have q2 := bQ.cell 2
          simp only [List.getElem?_toArray, List.getElem?_cons_zero, List.getElem?_cons_succ] at c2 q2
          clear he hgood hL' hln hln' hgr hrok hRd bQ
          go_wp2_with fail
          clear c2 q2
          go_loopw [12] (fun i wv => ∃ j : Nat, i = .int .i64 j ∧ j ≤ L.length ∧ Below wc.heap.size wc wv) (fun i _ => L.length - (intOf i).toNat)
          case atStart => exact ⟨0, rfl, Nat.zero_le _, Below.refl _ _⟩
          case round =>
            obtain ⟨j, rfl, hj2, hbv⟩ := hrel
            have bX := HXC.out.below hbv HXC.out.lt
            have bQ := HQ.out.below hbv HQ.out.lt
            by_cases hjL : j < L.length
            · obtain ⟨b1, o1, x1, hA1, hx1, hbl1, c0, c1, c2, c3, c4⟩ := (HLC.out.below hbv).ref rfl hjL
              obtain ⟨b2, o2, y1, hA2, hy1, hbl2, d0, d1, d2, d3, d4⟩ := (HRD'.out.below hbv).ref HLN'.out (i := j) (by rw [HLN'.out]; exact hjL)
              have hge := HGR.out j hjL (by rw [HLN'.out]; exact hjL)
              have hnlt : ¬ y1.u < x1.u := by rw [hy1, hx1]; exact Int.not_lt.2 hge
              have e2 := bX.cell 2; have q2 := bQ.cell 2
              simp only [List.getElem?_toArray, List.getElem?_cons_zero, List.getElem?_cons_succ] at e2 q2
              rw [hA1] at e2
              rw [hA2] at q2
              have hjl2 : (j : Int) < (L.length : Int) := by omega
              clear hge hx1 hy1 hA1 hA2 bX bQ c0 c1 c2 c3 d0 d1 d2 d3
              go_wp2_with fail
              go_quiet (fail)
              go_wp2_with fail
              go_roundw
              case rel => exact ⟨j + 1, by go_num, by omega, below_drewN hbv _⟩
              case measure => simp [intOf]; omega
            · have hje : j = L.length := by omega
              subst hje
              have e0 := bX.cell 0; have e1 := bX.cell 1; have e2 := bX.cell 2; have e3 := bX.cell 3; have e4 := bX.cell 4; have e5 := bX.cell 5; have e6 := bX.cell 6; have e7 := bX.cell 7; have e8 := bX.cell 8
              have f0 := bX.frozen 0; have f1 := bX.frozen 1; have f2 := bX.frozen 2; have f3 := bX.frozen 3; have f4 := bX.frozen 4; have f5 := bX.frozen 5; have f6 := bX.frozen 6; have f7 := bX.frozen 7; have f8 := bX.frozen 8
              have q0 := bQ.cell 0; have q1 := bQ.cell 1; have q2 := bQ.cell 2; have q3 := bQ.cell 3; have q4 := bQ.cell 4; have q5 := bQ.cell 5; have q6 := bQ.cell 6; have q7 := bQ.cell 7; have q8 := bQ.cell 8
              simp only [List.getElem?_toArray, List.getElem?_cons_zero, List.getElem?_cons_succ] at e0 e1 e2 e3 e4 e5 e6 e7 e8 q0 q1 q2 q3 q4 q5 q6 q7 q8
              have HBX := Lib.hid bX; have HBV := Lib.hid hbv
              clear bX bQ hbv
              go_wp2_with fail
              go_roundw
              case rel =>
                rw [show (((((((((wr.setCell ⟨w2.heap.size, 0, none⟩ (.int .i64 r.n)).setCell ⟨w2.heap.size, 1, none⟩ (.int .i64 r.now)).setCell ⟨w2.heap.size, 2, none⟩ (.slice (some ⟨g, 0, none⟩) L.length cap')).setCell ⟨w2.heap.size, 3, none⟩ (.slice r.A3 r.n3 r.c3)).setCell ⟨w2.heap.size, 4, none⟩ (.int .i64 r.pol.d)).setCell ⟨w2.heap.size, 5, none⟩ (.int .i64 r.pol.k)).setCell ⟨w2.heap.size, 6, none⟩ (.int .i64 r.pol.m)).setCell ⟨w2.heap.size, 7, none⟩ (.int .i64 r.pol.y)).setCell ⟨w2.heap.size, 8, none⟩ (.slice r.A8 r.n8 r.c8)) = stores wr (fill w2.heap.size 0 [.int .i64 r.n, .int .i64 r.now, .slice (some ⟨g, 0, none⟩) L.length cap', .slice r.A3 r.n3 r.c3, .int .i64 r.pol.d, .int .i64 r.pol.k, .int .i64 r.pol.m, .int .i64 r.pol.y, .slice r.A8 r.n8 r.c8]) from rfl]
                have HZ := filled wr w2.heap.size _ _ _ _ _ _ _ _ _ _ (.int .i64 r.n) (.int .i64 r.now) (.slice (some ⟨g, 0, none⟩) L.length cap') (.slice r.A3 r.n3 r.c3) (.int .i64 r.pol.d) (.int .i64 r.pol.k) (.int .i64 r.pol.m) (.int .i64 r.pol.y) (.slice r.A8 r.n8 r.c8) HBX.out (Nat.le_refl _)
                refine ⟨k + 1, some ⟨g, 0, none⟩, cap', L', by go_num, by omega, HLN'.out.trans HLN.out, HROK.out, by rw [HLN'.out]; exact HZ.1, ?_, fun ad e => by injection e with e; subst e; exact hgX, (HBC.out.trans (HBV.out.mono (by have := HXC.out.lt; omega))).trans HZ.2⟩
                rw [HLN'.out, fill_size0]
                exact Reads.fill ((HRD'.out.below HBV.out).more HBV.out.size) (fun ad e => by injection e with e; subst e; exact hgX) _
              case measure => simp [intOf]; omega
        · have hne : ((r.put (some ⟨b, o, none⟩) cap L).setErr x.m x.n pk.2 == 0) = false := beq_eq_false_iff_ne.2 he
          clear hgood
          go_wp2_with fail
          go_roundw
          case rel => exact ⟨k + 1, some ⟨b, o, none⟩, cap, L, by go_num, by omega, HLN.out, HLOK.out, HXC.out, HLC.out, HAX.out, HBC.out⟩
          case measure => simp [intOf]; omega
    · have hke : k = ps.length := by omega
      subst hke
      have hwl : IntKind.i64.wrap lt = lt := by rw [IntKind.wrap_i64]; omega
      have hws : wrap64 (r.now + lt) = r.now + lt := by unfold wrap64; omega
      have hwi : IntKind.i64.wrap (r.now + lt) = r.now + lt := by rw [IntKind.wrap_i64]; omega
      have bR4 := HR3.out.below hb hwz
      have c1 := bR4.cell 1
      have e0 := hX.cell 0; have e1 := hX.cell 1; have e2 := hX.cell 2; have e3 := hX.cell 3; have e4 := hX.cell 4; have e5 := hX.cell 5; have e6 := hX.cell 6; have e7 := hX.cell 7; have e8 := hX.cell 8
      have f1 := hX.frozen 1
      simp only [List.getElem?_toArray, List.getElem?_cons_zero, List.getElem?_cons_succ] at c1 e0 e1 e2 e3 e4 e5 e6 e7 e8
      have bX1 := hX.set_ 1 (.int .i64 (r.now + lt))
      simp only [List.setIfInBounds_toArray, List.set_cons_zero, List.set_cons_succ] at bX1
      have hr1 := Reads.set_far hLR (p := ⟨w2.heap.size, 1, none⟩) hAX (.int .i64 (r.now + lt))
      have hb1 := HB3.out.trans ((hb.setCell (p := ⟨w2.heap.size, 1, none⟩) (Nat.le_refl _) (.int .i64 (r.now + lt))).mono (by omega))
      have HX1 := Lib.hid bX1; have HR1 := Lib.hid hr1; have HB1 := Lib.hid hb1
      clear hX hLR hb bR4 bX1 hr1 hb1 hAX hL hLok HX HLR HBW
      go_wp2_with fail
      have hsz : (wr.setCell ⟨w2.heap.size, 1, none⟩ (.int .i64 (r.now + lt))).heap.size = wr.heap.size := by simp
      refine (trim_any ⟨r.n, r.now + lt, A, cap, L, r.A3, r.n3, r.c3, r.pol, r.A8, r.n8, r.c8⟩ _ ⟨by rw [hsz]; exact HR1.out, HLOK.out, hL60⟩).mono ?_
      rintro e w5 ⟨A2, cap2, rfl, ho5, hb5⟩
      have hxl := HX1.out.lt
      have bX5 := HX1.out.below hb5 hxl
      have hr5 := (HR1.out.more (show wr.heap.size ≤ (wr.setCell ⟨w2.heap.size, 1, none⟩ (.int .i64 (r.now + lt))).heap.size by omega)).below hb5
      have HX5 := Lib.hid bX5; have HR5 := Lib.hid hr5; have HO5 := Lib.hid (Reads.of_own ho5); have HB5 := Lib.hid (HB1.out.trans (hb5.mono HB1.out.size)); have hz5 := hb5.size
      have hst := fun (x : Ref) (hx : x ∈ L) (hu : r.now + lt < x.u) => stay_held ⟨r.n, r.now + lt, A, cap, L, r.A3, r.n3, r.c3, r.pol, r.A8, r.n8, r.c8⟩ hx hu
      have hs60 : (⟨r.n, r.now + lt, A, cap, L, r.A3, r.n3, r.c3, r.pol, r.A8, r.n8, r.c8⟩ : Root).stay.length ≤ 60 := by have := stay_gone_len ⟨r.n, r.now + lt, A, cap, L, r.A3, r.n3, r.c3, r.pol, r.A8, r.n8, r.c8⟩; simp only at this; omega
      have HST := Lib.hid hst
      clear hst hb5 ho5 bX5 hr5 HX1 HR1 HB1 e0 e1 e2 e3 e4 e5 e6 e7 e8 f1 c1
      generalize hSS : (⟨r.n, r.now + lt, A, cap, L, r.A3, r.n3, r.c3, r.pol, r.A8, r.n8, r.c8⟩ : Root).stay = SS at *
      have hfld : ∀ (W : World), (Instr.field 28 (.agg #[.int .i64 r.n, .int .i64 (r.now + lt), .slice A2 SS.length cap2, .slice r.A3 r.n3 r.c3, .int .i64 r.pol.d, .int .i64 r.pol.k, .int .i64 r.pol.m, .int .i64 r.pol.y, .slice r.A8 r.n8 r.c8]) 2).run Try.prog W = .ok (.slice A2 SS.length cap2) W := fun W => fieldG_refs W _ _ _ _ _ _ _ _ _
      clear hSS
      go_wp2_with fail
      go_loopw [14] (fun i wv => ∃ k : Nat, i = .int .i64 k ∧ k ≤ L.length ∧ Below w5.heap.size w5 wv) (fun i _ => L.length - (intOf i).toNat)
      case atStart => exact ⟨0, rfl, Nat.zero_le _, Below.refl _ _⟩
      case round =>
        obtain ⟨k, rfl, hk2, hbv⟩ := hrel
        have bX6 := HX5.out.below hbv HX5.out.lt
        have c2 := bX6.cell 2
        simp only [List.getElem?_toArray, List.getElem?_cons_zero, List.getElem?_cons_succ] at c2
        clear bX6
        by_cases hkL : k < L.length
        · obtain ⟨b, o, x, hA, hx, hbl, d0, d1, d2, d3, d4⟩ := HR5.out.ref rfl hkL
          have hxm : x ∈ L := by rw [hx]; exact List.getElem_mem _
          have HA := Lib.hid hA
          have hblz : b < w5.heap.size := by have := hbl; omega
          clear hx hA hbl
          go_wp2_with fail
          go_loopw [15, 16] (fun t z wv => ∃ j : Nat, z = .int .i64 j ∧ j ≤ SS.length ∧ t = .bool ((SS.take j).any fun y => decide (y = x)) ∧ Below w5.heap.size w5 wv)
            (fun _ z _ => SS.length - (intOf z).toNat)
          case atStart => exact ⟨0, rfl, Nat.zero_le _, rfl, hbv⟩
          case round =>
            clear hbv c2
            obtain ⟨j, rfl, hj, rfl, hbv⟩ := hrel
            have bX6 := HX5.out.below hbv HX5.out.lt
            have c1 := bX6.cell 1; have c2 := bX6.cell 2
            simp only [List.getElem?_toArray, List.getElem?_cons_zero, List.getElem?_cons_succ] at c1 c2
            rw [HA.out] at c2
            have g0 := (hbv.cell (p := ⟨b, o + k * 5, none⟩) hblz).trans d0; have g1 := (hbv.cell (p := ⟨b, o + k * 5 + 1, none⟩) hblz).trans d1; have g2 := (hbv.cell (p := ⟨b, o + k * 5 + 2, none⟩) hblz).trans d2; have g3 := (hbv.cell (p := ⟨b, o + k * 5 + 3, none⟩) hblz).trans d3; have g4 := (hbv.cell (p := ⟨b, o + k * 5 + 4, none⟩) hblz).trans d4
            have hkL' : (k : Int) < (L.length : Int) := by omega
            clear bX6
            by_cases hjl : j < SS.length
            · obtain ⟨b', o', y, hA', hy, hbl', h0, h1, h2, h3, h4⟩ := (HO5.out.below hbv).ref rfl hjl
              have hji : (j : Int) < (SS.length : Int) := by omega
              have htk : ((SS.take (j + 1)).any fun y => decide (y = x)) = (((SS.take j).any fun y => decide (y = x)) || decide (y = x)) := by
                rw [List.take_succ_eq_append_getElem hjl, List.any_append, hy]; simp
              have HT := Lib.hid htk
              clear htk hy
              subst hA'
              cases hbb : (SS.take j).any fun y => decide (y = x) with
              | true =>
                go_wp2_with fail
                go_quiet (fail)
                go_wp2_with fail
                go_roundw
                case rel => exact ⟨j + 1, by go_num, by omega, by rw [HT.out, hbb]; rfl, below_drewN hbv _⟩
                case measure => simp [intOf]; omega
              | false =>
                by_cases hm : y = x
                · have heq : ∀ W : World, (binOp .eql 38 y.v x.v).run Try.prog W = .ok (.bool true) W := fun W => by rw [run_eql_struct, eq_ref]; simp [hm]
                  have HM := Lib.hid hm
                  clear hm
                  go_wp2_with fail
                  go_quiet (fail)
                  go_wp2_with fail
                  go_roundw
                  case rel => exact ⟨j + 1, by go_num, by omega, by rw [HT.out, hbb]; simp [HM.out], below_drewN hbv _⟩
                  case measure => simp [intOf]; omega
                · have heq : ∀ W : World, (binOp .eql 38 y.v x.v).run Try.prog W = .ok (.bool false) W := fun W => by rw [run_eql_struct, eq_ref]; simp [hm]
                  have HM := Lib.hid hm
                  clear hm
                  go_wp2_with fail
                  go_quiet (fail)
                  go_wp2_with fail
                  go_roundw
                  case rel => exact ⟨j + 1, by go_num, by omega, by rw [HT.out, hbb]; simp [HM.out], below_drewN hbv _⟩
                  case measure => simp [intOf]; omega
            · have hje : j = SS.length := by omega
              subst hje
              rw [List.take_length]
              by_cases hu : r.now + lt < x.u
              · have hall : (SS.any fun y => decide (y = x)) = true := by
                  rw [List.any_eq_true]
                  exact ⟨x, HST.out x hxm hu, by simp⟩
                rw [hall]
                go_wp2_with fail
                go_quiet (fail)
                go_wp2_with fail
                go_roundw
                case rel => exact ⟨k + 1, by go_num, by omega, below_drewN hbv _⟩
                case measure => simp [intOf]; omega
              · have hd : decide (r.now + lt < x.u) = false := decide_eq_false hu
                generalize (SS.any fun y => decide (y = x)) = bb at *
                go_wp2_with fail
                go_quiet (fail)
                go_wp2_with fail
                go_roundw
                case rel => exact ⟨k + 1, by go_num, by omega, below_drewN hbv _⟩
                case measure => simp [intOf]; omega
        · have hke : k = L.length := by omega
          subst hke
          go_wp2_with fail
          go_ret
          exact ⟨rfl, HB5.out.trans (hbv.mono HB5.out.size)⟩

end Go.Proofs.Ytfjlhcapkfcpkaa
