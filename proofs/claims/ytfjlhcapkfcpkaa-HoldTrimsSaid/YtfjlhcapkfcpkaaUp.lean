/-
  PLAIN LAW: what the reference of layer 49 counts (later periods of a machine, each once) is what policy.last keeps by.
-/
import Derived.Test.YtfjlhcapkfcpkaaPick
import Derived.Test.YtfjlhcapkfcpkaaMono
namespace Go.Proofs.Ytfjlhcapkfcpkaa
open Go.RowKit
set_option linter.unusedSimpArgs false
set_option linter.unusedVariables false

/-- A is the later periods of x's machine among L, each once. -/
def Up (per : Int → Int) (L : List One) (x : One) (A : List Int) : Prop := A.Nodup ∧ ∀ q, q ∈ A ↔ ∃ y ∈ L, y.m = x.m ∧ per x.t < per y.t ∧ per y.t = q
theorem up_nil (per : Int → Int) (x : One) : Up per [] x [] := ⟨List.nodup_nil, fun q => by simp⟩
theorem up_skip {per : Int → Int} {L : List One} {x : One} {A : List Int} (h : Up per L x A) (y : One) (hy : y.m = x.m → ¬ per x.t < per y.t ∨ per y.t ∈ A) : Up per (L ++ [y]) x A := by
  refine ⟨h.1, fun q => ?_⟩
  rw [h.2]
  constructor
  · rintro ⟨z, hz, h1⟩; exact ⟨z, List.mem_append_left _ hz, h1⟩
  · rintro ⟨z, hz, h1, h2, h3⟩
    rcases List.mem_append.1 hz with hz | hz
    · exact ⟨z, hz, h1, h2, h3⟩
    · rcases List.mem_singleton.1 hz with rfl
      rcases hy h1 with c | c
      · exact absurd h2 c
      · rw [h3] at c; exact (h.2 q).1 c
theorem up_add {per : Int → Int} {L : List One} {x : One} {A : List Int} (h : Up per L x A) (y : One) (hm : y.m = x.m) (hlt : per x.t < per y.t) (hy : per y.t ∉ A) : Up per (L ++ [y]) x (A ++ [per y.t]) := by
  refine ⟨List.nodup_append.2 ⟨h.1, by simp, fun a ha b hb => ?_⟩, fun q => ?_⟩
  · rcases List.mem_singleton.1 hb with rfl
    intro e; subst e; exact hy ha
  · rw [List.mem_append, h.2]
    constructor
    · rintro (⟨z, hz, h1⟩ | hq)
      · exact ⟨z, List.mem_append_left _ hz, h1⟩
      · rcases List.mem_singleton.1 hq with rfl
        exact ⟨y, by simp, hm, hlt, rfl⟩
    · rintro ⟨z, hz, h1, h2, h3⟩
      rcases List.mem_append.1 hz with hz | hz
      · exact .inl ⟨z, hz, h1, h2, h3⟩
      · rcases List.mem_singleton.1 hz with rfl
        exact .inr (by rw [h3]; simp)
/-- Periods grow. -/
def Grows (per : Int → Int) : Prop := ∀ x z : Int, x ≤ z → per x ≤ per z
theorem picked_up {per : Int → Int} (hg : Grows per) {L : List One} {x : One} {A : List Int} (h : Up per L x A) (hno : ∀ y ∈ L, later y x → per y.t ≠ per x.t) (n : Int) : picked per n L x ↔ (A.length : Int) < n := by
  have hmem : ∀ q, q ∈ A ↔ q ∈ above per L x := by
    intro q
    rw [h.2, above_mem]
    constructor
    · rintro ⟨y, hy, h1, h2, h3⟩
      refine ⟨y, hy, ⟨h1, .inl (Int.lt_of_not_ge fun c => ?_)⟩, h3⟩
      have := hg _ _ c; omega
    · rintro ⟨y, hy, hl, h3⟩
      have h4 := hg x.t y.t (by rcases hl.2 with c | c <;> omega)
      have h5 := hno y hy hl
      exact ⟨y, hy, hl.1, by omega, h3⟩
  have e1 : (distinct (above per L x)).length = A.length := Nat.le_antisymm
    (nodup_le _ _ (distinct_nodup _) (fun q hq => (hmem q).2 ((distinct_mem _ q).1 hq)))
    (nodup_le _ _ h.1 (fun q hq => (distinct_mem _ q).2 ((hmem q).1 hq)))
  unfold picked
  rw [e1]
  constructor
  · exact fun c => c.2
  · refine fun c => ⟨fun d => ?_, c⟩
    obtain ⟨z, hz, hl, he⟩ := (above_mem per L x _).1 d
    exact hno z hz hl he
theorem picked_not {per : Int → Int} {L : List One} {x y : One} (hy : y ∈ L) (hl : later y x) (he : per y.t = per x.t) (n : Int) : ¬ picked per n L x := fun c => c.1 ((above_mem per L x _).2 ⟨y, hy, hl, he⟩)
theorem perN_grows : ∀ j, Grows (perN j)
  | 0 => fun _ _ h => Day.day_mono h
  | 1 => fun _ _ h => Day.week_mono h
  | 2 => fun _ _ h => Day.month_mono h
  | _ + 3 => fun _ _ h => Day.year_mono h

end Go.Proofs.Ytfjlhcapkfcpkaa
