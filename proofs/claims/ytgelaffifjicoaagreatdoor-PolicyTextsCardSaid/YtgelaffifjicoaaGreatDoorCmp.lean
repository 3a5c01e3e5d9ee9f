/-
  WALKS: cmp.Compare at int64 and int, cmp.Or at int, the closure by which package policy sorts.
-/
import Derived.Test.YtgelaffifjicoaaGreatDoorPol
import Derived.Lib.Small
import Derived.Lib.Bytealg
import Derived.StillTailTactics
import Derived.Sort.Grow
namespace Go.Proofs.YtgelaffifjicoaaGreatDoor
open Go.RowKit
set_option linter.unusedSimpArgs false
set_option linter.unusedVariables false

set_option maxHeartbeats 400000 in
theorem cmp64_any (x y : Int) (w : World) :
    Calls Tryz.prog 39 #[.int .i64 x, .int .i64 y] w fun e w' => e = .returned (.int .i64 (Lib.compareInt x y)) ∧ w = w' := by
  go_enter Tryz.func39, Tryz.ntmps39
  rcases (show x < y ∨ x = y ∨ y < x from by omega) with h | h | h
  · go_wp2
    go_ret
    exact ⟨ret_int (by unfold Lib.compareInt; rw [if_pos h]), rfl⟩
  · subst h
    go_wp2
    go_ret
    exact ⟨ret_int (by unfold Lib.compareInt; rw [if_neg (by omega), if_neg (by omega)]), rfl⟩
  · go_wp2
    go_ret
    exact ⟨ret_int (by unfold Lib.compareInt; rw [if_neg (by omega), if_pos h]), rfl⟩

set_option maxHeartbeats 400000 in
theorem cmpint_any (x y : Int) (w : World) :
    Calls Tryz.prog 40 #[.int .i64 x, .int .i64 y] w fun e w' => e = .returned (.int .i64 (Lib.compareInt x y)) ∧ w = w' := by
  go_enter Tryz.func40, Tryz.ntmps40
  rcases (show x < y ∨ x = y ∨ y < x from by omega) with h | h | h
  · go_wp2
    go_ret
    exact ⟨ret_int (by unfold Lib.compareInt; rw [if_pos h]), rfl⟩
  · subst h
    go_wp2
    go_ret
    exact ⟨ret_int (by unfold Lib.compareInt; rw [if_neg (by omega), if_neg (by omega)]), rfl⟩
  · go_wp2
    go_ret
    exact ⟨ret_int (by unfold Lib.compareInt; rw [if_neg (by omega), if_pos h]), rfl⟩

/-- The first of three that is not nought. -/
def or3 (a b c : Int) : Int := if a ≠ 0 then a else if b ≠ 0 then b else c

set_option maxHeartbeats 400000 in
theorem or_any (a b c : Int) (g : Nat) (w : World) (h : w.heap[g]? = some (.cells #[.int .i64 a, .int .i64 b, .int .i64 c] 3 (0, 0))) :
    Calls Tryz.prog 37 #[.slice (some ⟨g, 0, none⟩) 3 3] w fun e w' => e = .returned (.int .i64 (or3 a b c)) ∧ w = w' := by
  have hc0 : w.cell? ⟨g, 0, none⟩ = some (.int .i64 a) := by simp [World.cell?, h]
  have hc1 : w.cell? ⟨g, 1, none⟩ = some (.int .i64 b) := by simp [World.cell?, h]
  have hc2 : w.cell? ⟨g, 2, none⟩ = some (.int .i64 c) := by simp [World.cell?, h]
  clear h
  go_enter Tryz.func37, Tryz.ntmps37
  go_wp2_with fail
  by_cases ha : a = 0
  · subst ha
    by_cases hb : b = 0
    · subst hb
      by_cases hcz : c = 0
      · subst hcz
        refine wp_loop_rounds 4 ?_
        rw [rounds_succ]
        go_wp2
        rw [rounds_succ]
        go_wp2
        rw [rounds_succ]
        go_wp2
        rw [rounds_succ]
        go_wp2
        go_ret
        exact ⟨rfl, rfl⟩
      · refine wp_loop_rounds 3 ?_
        rw [rounds_succ]
        go_wp2
        rw [rounds_succ]
        go_wp2
        rw [rounds_succ]
        go_wp2
        go_ret
        exact ⟨ret_int (by simp [or3]), rfl⟩
    · refine wp_loop_rounds 2 ?_
      rw [rounds_succ]
      go_wp2
      rw [rounds_succ]
      go_wp2
      go_ret
      exact ⟨ret_int (by simp [or3, hb]), rfl⟩
  · refine wp_loop_rounds 1 ?_; rw [rounds_succ]
    go_wp2
    go_ret
    exact ⟨ret_int (by simp [or3, ha]), rfl⟩

theorem heap_third (w : World) (a b c : Obj) : ((((w.alloc a).alloc b).alloc c).drew).heap[w.heap.size + 2]? = some c := by
  have h := heap_alloc_new ((w.alloc a).alloc b) c
  rw [World.size_alloc, World.size_alloc] at h
  exact h
theorem grow_third (w : World) (a b c : Obj) : (((w.alloc a).alloc b).alloc c).drew = Sort.grow (w.drewN 1) #[a, b, c] := by
  rw [Sort.alloc_eq_grow, Sort.alloc_eq_grow, Sort.alloc_eq_grow, Sort.grow_grow, Sort.grow_grow]
  rfl

/-- How two snapshots stand: by machine, the latest one first. -/
def cf (x y : One) : Int := or3 (Lib.compareBytes x.m.data.toList y.m.data.toList) (Lib.compareInt y.t x.t) (Lib.compareInt y.n x.n)

set_option maxRecDepth 100000 in
set_option maxHeartbeats 400000 in
theorem less_any (hs : ∀ (a b : ByteArray) (w : World), Calls Tryz.prog 38 #[.string a, .string b] w fun e w' => e = .returned (.int .i64 (Lib.compareBytes a.data.toList b.data.toList)) ∧ w' = w) (x y : One) (w : World) :
    Calls Tryz.prog 36 #[x.v, y.v] w fun e w' => e = .returned (.int .i64 (cf x y)) ∧ ∃ q os', w' = Sort.grow (w.drewN q) os' := by
  go_enter Tryz.func36, Tryz.ntmps36
  go_wp2_with fail
  refine wp_region_still_tail 15 (by kernel_rfl) (by kernel_rfl) ?_
  simp only [List.take_succ_cons, List.take_zero, List.drop_succ_cons, List.drop_zero]
  change wpStill _ _ (World.drew _) (fun a' => wpList _ _ _ _ a' (World.drew _)) _ _
  repeat still_step
  still_call (hs _ _ _)
  repeat still_step
  still_call ((cmp64_any _ _ _).mono fun _ _ ⟨a, b⟩ => ⟨a, b.symm⟩)
  repeat still_step
  still_call ((cmpint_any _ _ _).mono fun _ _ ⟨a, b⟩ => ⟨a, b.symm⟩)
  refine wpStill_nil ?_
  go_wp2_with fail
  refine (or_any (Lib.compareBytes x.m.data.toList y.m.data.toList) (Lib.compareInt y.t x.t) (Lib.compareInt y.n x.n) (w.heap.size + 2) _ ?_).mono ?_
  · exact heap_third _ _ _ _
  rintro e w' ⟨rfl, rfl⟩
  go_wp2_with fail
  go_ret
  exact ⟨rfl, 1, _, grow_third _ _ _ _⟩

end Go.Proofs.YtgelaffifjicoaaGreatDoor
