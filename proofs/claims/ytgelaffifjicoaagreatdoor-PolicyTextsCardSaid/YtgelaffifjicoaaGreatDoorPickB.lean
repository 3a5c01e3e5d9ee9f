/-
  PLAIN LAW: what policy.Keep says, as a Bool that can be reckoned, without an order.
-/
import Derived.Test.YtgelaffifjicoaaGreatDoorPick
namespace Go.Proofs.YtgelaffifjicoaaGreatDoor
open Go.RowKit
set_option linter.unusedSimpArgs false
set_option linter.unusedVariables false

def pickB (per : Int → Int) (n : Int) (L : List One) (y : One) : Bool := !decide (per y.t ∈ above per L y) && decide (((distinct (above per L y)).length : Int) < n)
theorem pickB_iff (per : Int → Int) (n : Int) (L : List One) (y : One) : pickB per n L y = true ↔ picked per n L y := by
  unfold pickB picked; simp
theorem keep_pick (p : Pol) (now : Int) (l : List Ref) (x : Ref) (hx : x ∈ l) (y0 : Bool) (h : y0 = (p.chk != 0 || decide (now < x.u))) :
    keepB p now l x = (y0 || (List.range 4).any fun q => pickB (perN q) (p.num q) (l.map Ref.one) x.one) := by
  subst h
  rw [Bool.eq_iff_iff, keepB_iff p now l x hx]
  simp only [Bool.or_eq_true, bne_iff_ne, decide_eq_true_eq, List.any_eq_true, List.mem_range, pickB_iff, or_assoc]
def keepR (p : Pol) (now : Int) (l : List Ref) (x : Ref) : Bool := (p.chk != 0 || decide (now < x.u)) || (List.range 4).any fun q => pickB (perN q) (p.num q) (l.map Ref.one) x.one
theorem keepF_reckon (p : Pol) (l : List Ref) (now : Int) : keepF p l now = l.map (keepR p now l) := by
  unfold keepF
  exact List.map_congr_left fun x hx => keep_pick p now l x hx _ rfl

end Go.Proofs.YtgelaffifjicoaaGreatDoor
