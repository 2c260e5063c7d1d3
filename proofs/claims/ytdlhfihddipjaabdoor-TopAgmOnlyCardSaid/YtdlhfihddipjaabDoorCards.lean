/-
  DERIVED. GIVEN WITH THE SEED: THE CARDS: each row of YtdlhfihddipjaabDoorRows.lean that lists a variable, with what it lists TIED to the program's text (the seventh form; the later family's looks); each row that meets fmt, with fmt's text TOLD by the authors' own Lean function (tested against real Go, not proved from fmt's source: count such statements apart). THE CARD IS WHAT COUNTS. Prove the row's statement (the work); the ties are given (YtdlhfihddipjaabDoorTie.lean); close each card by the builder's one call (the guide's Derived/Test/ToyasCard.lean, 'card_holds'). Laid BY PROGRAM, IN A SANDBOX (cutbox-door.mjs). By AI agents, Wed Nov 11 2026. No macro, syntax, notation, axiom, sorry.
-/
import Derived.Test.YtdlhfihddipjaabDoorRows
import GoSem.ClaimSeven
namespace Go.Proofs.YtdlhfihddipjaabDoor
namespace Rows

/-- THE TIED CARD OF 'wittingtop.TopAgmOnly'. -/
def topAgmOnlyCard : Claim7 := { stood := { row := topAgmOnlyRow, standIns := [], harness := (true, "c8a0ad90b4d68c495a7a6474b1d439ba48251f13d170bcbdb3b8ab35e3cbae4e"), looks := false }, kinds := [], alts := [], laidByText := true, laidKinds := [.funcs], laidTests := true, laidLooks := .later }
def TopAgmOnlyCardSaid : Prop := Claim7.holds Tryd.pinned (.plain (OpenSpec.ofChange topAgmOnlySpec)) topAgmOnlyCard

/-- THE SECOND FORM's CARD OF 'wittingtop.TopAgmOnly'. -/
def topAgmOnlyUptoCard : Claim7 := { stood := { row := topAgmOnlyUptoRow, standIns := [], harness := (true, "c8a0ad90b4d68c495a7a6474b1d439ba48251f13d170bcbdb3b8ab35e3cbae4e"), looks := false }, kinds := [], alts := [], laidByText := true, laidKinds := [.funcs], laidTests := true, laidLooks := .later }
def TopAgmOnlyUptoCardSaid : Prop := Claim7.holds Tryd.pinned (.plain (OpenSpec.upto topAgmOnlySpec)) topAgmOnlyUptoCard
end Rows
end Go.Proofs.YtdlhfihddipjaabDoor
