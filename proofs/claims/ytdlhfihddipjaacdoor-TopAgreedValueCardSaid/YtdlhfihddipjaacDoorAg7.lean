/-
  The agreement texts: Posteriors, of the program and of its reference; lists of fractions compared.
-/
import Derived.Test.YtdlhfihddipjaacDoorAg6
namespace Go.Proofs.YtdlhfihddipjaacDoor
open Go.RowKit

def postsR (W : List Int) (C : List (List Int)) (a : Int) (e : Nat) : List (Nat × Nat) × Int := if chkErr W C a 0 e ≠ 0 then ([], chkErr W C a 0 e) else (posts W C a.toNat e W.length, 0)

end Go.Proofs.YtdlhfihddipjaacDoor
