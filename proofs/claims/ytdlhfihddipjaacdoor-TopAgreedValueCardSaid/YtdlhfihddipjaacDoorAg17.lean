/-
  The agreement texts: Round and Announce of the program.
-/
import Derived.Test.YtdlhfihddipjaacDoorAg16
namespace Go.Proofs.YtdlhfihddipjaacDoor
open Go.RowKit

/-- What a function that answers by a prior and an error gives. -/
def priW (z : Int) (W : List Int) : List Int := if z ≠ 0 then [] else W
def priC (z : Int) (C : List (List Int)) : List (List Int) := if z ≠ 0 then [] else C
theorem Prior.none (w : World) (z : Int) (W : List Int) (C : List (List Int)) (hz : z ≠ 0) : Prior w (.slice none 0 0) (.slice none 0 0) (priW z W) (priC z C) := by
  unfold priW priC
  rw [if_pos hz, if_pos hz]
  exact ⟨Ints.nil _ _, Rows.nil _⟩
theorem OPr.priZ {w : World} {b : Nat} {v1 v2 : Value} {W : List Int} {C : List (List Int)} (h : OPr w b v1 v2 W C) (h4 : C.length ≤ 4) {z : Int} (hz : z = 0) : Prior w v1 v2 (priW z W) (priC z C) := by
  unfold priW priC
  rw [if_neg (by simpa using hz), if_neg (by simpa using hz)]
  exact h.prior h4

end Go.Proofs.YtdlhfihddipjaacDoor
