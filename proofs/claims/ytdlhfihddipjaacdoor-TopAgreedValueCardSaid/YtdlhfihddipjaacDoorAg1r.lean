/-
  Contract: the reference's check of a prior.
-/
import Derived.Test.YtdlhfihddipjaacDoorAg1
namespace Go.Proofs.YtdlhfihddipjaacDoor
open Go.RowKit

end Go.Proofs.YtdlhfihddipjaacDoor
