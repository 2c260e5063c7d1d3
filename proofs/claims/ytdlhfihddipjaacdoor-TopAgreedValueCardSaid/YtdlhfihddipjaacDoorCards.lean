/-
  DERIVED. GIVEN WITH THE SEED: THE CARDS: each row of YtdlhfihddipjaacDoorRows.lean that lists a variable, with what it lists TIED to the program's text (the seventh form; the later family's looks); each row that meets fmt, with fmt's text TOLD by the authors' own Lean function (tested against real Go, not proved from fmt's source: count such statements apart). THE CARD IS WHAT COUNTS. Prove the row's statement (the work); the ties are given (YtdlhfihddipjaacDoorTie.lean); close each card by the builder's one call (the guide's Derived/Test/ToyasCard.lean, 'card_holds'). Laid BY PROGRAM, IN A SANDBOX (cutbox-door.mjs). By AI agents, Wed Nov 11 2026. No macro, syntax, notation, axiom, sorry.
-/
import Derived.Test.YtdlhfihddipjaacDoorRows
import GoSem.ClaimSeven
namespace Go.Proofs.YtdlhfihddipjaacDoor
namespace Rows

/-- THE TIED CARD OF 'wittingtop.TopDalal'. -/
def topDalalCard : Claim7 := { stood := { row := topDalalRow, standIns := [], harness := (true, "d593ce27e8bf2ec988b238dacb3a9fb6cd99d32ea0304edf83d03985aa1188d5"), looks := false }, kinds := [], alts := [], laidByText := true, laidKinds := [.funcs], laidTests := true, laidLooks := .later }
def TopDalalCardSaid : Prop := Claim7.holds Tryd.pinned (.plain (OpenSpec.ofChange topDalalSpec)) topDalalCard

/-- THE TIED CARD OF 'wittingtop.TopCommonReached'. -/
def topCommonReachedCard : Claim7 := { stood := { row := topCommonReachedRow, standIns := [], harness := (true, "d593ce27e8bf2ec988b238dacb3a9fb6cd99d32ea0304edf83d03985aa1188d5"), looks := false }, kinds := [], alts := [], laidByText := true, laidKinds := [.data], laidTests := true, laidLooks := .later }
def TopCommonReachedCardSaid : Prop := Claim7.holds Tryd.pinned (.plain (OpenSpec.ofChange topCommonReachedSpec)) topCommonReachedCard

/-- THE TIED CARD OF 'wittingtop.TopAgreedValue'. -/
def topAgreedValueCard : Claim7 := { stood := { row := topAgreedValueRow, standIns := [], harness := (true, "d593ce27e8bf2ec988b238dacb3a9fb6cd99d32ea0304edf83d03985aa1188d5"), looks := false }, kinds := [], alts := [], laidByText := true, laidKinds := [.data], laidTests := true, laidLooks := .later }
def TopAgreedValueCardSaid : Prop := Claim7.holds Tryd.pinned (.plain (OpenSpec.ofChange topAgreedValueSpec)) topAgreedValueCard

/-- THE SECOND FORM's CARD OF 'wittingtop.TopDalal'. -/
def topDalalUptoCard : Claim7 := { stood := { row := topDalalUptoRow, standIns := [], harness := (true, "d593ce27e8bf2ec988b238dacb3a9fb6cd99d32ea0304edf83d03985aa1188d5"), looks := false }, kinds := [], alts := [], laidByText := true, laidKinds := [.funcs], laidTests := true, laidLooks := .later }
def TopDalalUptoCardSaid : Prop := Claim7.holds Tryd.pinned (.plain (OpenSpec.upto topDalalSpec)) topDalalUptoCard

/-- THE SECOND FORM's CARD OF 'wittingtop.TopCommonReached'. -/
def topCommonReachedUptoCard : Claim7 := { stood := { row := topCommonReachedUptoRow, standIns := [], harness := (true, "d593ce27e8bf2ec988b238dacb3a9fb6cd99d32ea0304edf83d03985aa1188d5"), looks := false }, kinds := [], alts := [], laidByText := true, laidKinds := [.data], laidTests := true, laidLooks := .later }
def TopCommonReachedUptoCardSaid : Prop := Claim7.holds Tryd.pinned (.plain (OpenSpec.upto topCommonReachedSpec)) topCommonReachedUptoCard

/-- THE SECOND FORM's CARD OF 'wittingtop.TopAgreedValue'. -/
def topAgreedValueUptoCard : Claim7 := { stood := { row := topAgreedValueUptoRow, standIns := [], harness := (true, "d593ce27e8bf2ec988b238dacb3a9fb6cd99d32ea0304edf83d03985aa1188d5"), looks := false }, kinds := [], alts := [], laidByText := true, laidKinds := [.data], laidTests := true, laidLooks := .later }
def TopAgreedValueUptoCardSaid : Prop := Claim7.holds Tryd.pinned (.plain (OpenSpec.upto topAgreedValueSpec)) topAgreedValueUptoCard
end Rows
end Go.Proofs.YtdlhfihddipjaacDoor
