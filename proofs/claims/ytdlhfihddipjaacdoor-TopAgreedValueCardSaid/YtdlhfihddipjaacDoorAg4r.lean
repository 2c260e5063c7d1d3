/-
  The agreement texts: the reference's error of a prior and an event.
-/
import Derived.Test.YtdlhfihddipjaacDoorAg4
import Derived.Test.YtdlhfihddipjaacDoorAg1r
namespace Go.Proofs.YtdlhfihddipjaacDoor
open Go.RowKit

end Go.Proofs.YtdlhfihddipjaacDoor
