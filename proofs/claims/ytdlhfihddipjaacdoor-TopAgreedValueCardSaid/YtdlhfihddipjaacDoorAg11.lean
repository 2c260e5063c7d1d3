/-
  The agreement texts: the reference's canonical partition and Split.
-/
import Derived.Test.YtdlhfihddipjaacDoorAg6
namespace Go.Proofs.YtdlhfihddipjaacDoor
open Go.RowKit

theorem upTo_succ24 (n : Nat) (f : Nat → Int) : upTo (n + 1) f = upTo n f ++ [f n] := by simp [upTo, List.range_succ]

end Go.Proofs.YtdlhfihddipjaacDoor
