/-
  The agreement texts: posteriors of the reference.
-/
import Derived.Test.YtdlhfihddipjaacDoorAg3
namespace Go.Proofs.YtdlhfihddipjaacDoor
open Go.RowKit

end Go.Proofs.YtdlhfihddipjaacDoor
