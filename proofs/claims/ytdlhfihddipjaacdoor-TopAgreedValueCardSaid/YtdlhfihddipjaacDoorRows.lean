/-
  NARROWER THAN 'FOR EVERY INPUT', by the rows' own cells (each row's printed sentence says how): TopDalal: laid · TopCommonReached: laid · TopAgreedValue: laid.
  DERIVED. THE GIVEN ROWS OF THIS SEAT. 3 by the template 'for every input the law returns true; each argument reads behind the call as it read before'; 0 by the template 'total and deterministic' (their statements: YtdlhfihddipjaacDoorTotals.lean).
  GIVEN WITH THE SEED: the statements are not yours to turn. If you find one false, say at which input.
  Laid BY PROGRAM, IN A SANDBOX (cutbox-rows.mjs): the forced cells as the released guide's own fill.sh prints them over the translation 0ee3ebfd06a2d8cd… (all of the seat's roots in one cut). By AI agents, Wed Nov 11 2026. No macro, syntax, notation, axiom, sorry.
-/
import Derived.Test.YtdlhfihddipjaacDoorChecked
import GoSem.Claim
import GoSem.ClaimJoined
import GoSem.ClaimMapViews
import Derived.JoinedTies
import Derived.KernelRfl
namespace Go.Proofs.YtdlhfihddipjaacDoor
/- THE CELL 'sum', in the pinned program and in every row, IS THE sha256 OF THE DUMP (.gsa) THAT YtdlhfihddipjaacDoorProg.lean LOADS. Nothing in Lean hashes anything: it is a label: what it is worth is what the hold of that sum in a sandbox is worth. -/
noncomputable def Tryd.pinned : Pinned := { name := "ytdlhfihddipjaacdoor", sum := "0ee3ebfd06a2d8cd29c66124ea38c092e3695666a53405e37dc52db40c6e9954", checked := Tryd.checked }
namespace Rows
def none {H : Type} : Left H := { results := [], args := [] }

/- WHAT THE LISTED PACKAGE-LEVEL VARIABLES READ AS WHEN THE CALL BEGINS. Each datum BY PROGRAM (the guide's laid-datum.mjs) off the statement by which the dump's own 'gosem.cut.vars' lays the variable. In a bare row this is a premise. The card (YtdlhfihddipjaacDoorCards.lean) ties it to the program's text. -/
def laid_witting_postulates_revision {H : Type} : DataW H := .iface "func table" (.slice [.agg [.lit (.bool false), .iface "func" (.lit (.string [119, 105, 116, 116, 105, 110, 103, 47, 112, 111, 115, 116, 117, 108, 97, 116, 101, 115, 46, 114, 101, 118, 105, 115, 105, 111, 110, 36, 49]))], .agg [.lit (.bool false), .iface "func" (.lit (.string [119, 105, 116, 116, 105, 110, 103, 47, 112, 111, 115, 116, 117, 108, 97, 116, 101, 115, 46, 114, 101, 118, 105, 115, 105, 111, 110, 36, 50]))], .agg [.lit (.bool false), .iface "func" (.lit (.string [119, 105, 116, 116, 105, 110, 103, 47, 112, 111, 115, 116, 117, 108, 97, 116, 101, 115, 46, 114, 101, 118, 105, 115, 105, 111, 110, 36, 51]))], .agg [.lit (.bool false), .iface "func" (.lit (.string [119, 105, 116, 116, 105, 110, 103, 47, 112, 111, 115, 116, 117, 108, 97, 116, 101, 115, 46, 114, 101, 118, 105, 115, 105, 111, 110, 36, 52]))], .agg [.lit (.bool true), .iface "func" (.lit (.string [119, 105, 116, 116, 105, 110, 103, 47, 112, 111, 115, 116, 117, 108, 97, 116, 101, 115, 46, 114, 101, 118, 105, 115, 105, 111, 110, 36, 53]))], .agg [.lit (.bool true), .iface "func" (.lit (.string [119, 105, 116, 116, 105, 110, 103, 47, 112, 111, 115, 116, 117, 108, 97, 116, 101, 115, 46, 114, 101, 118, 105, 115, 105, 111, 110, 36, 54]))]] [])
def laid_math_bits_deBruijn64tab {H : Type} : DataW H := .agg [.lit (.int .u8 0), .lit (.int .u8 1), .lit (.int .u8 56), .lit (.int .u8 2), .lit (.int .u8 57), .lit (.int .u8 49), .lit (.int .u8 28), .lit (.int .u8 3), .lit (.int .u8 61), .lit (.int .u8 58), .lit (.int .u8 42), .lit (.int .u8 50), .lit (.int .u8 38), .lit (.int .u8 29), .lit (.int .u8 17), .lit (.int .u8 4), .lit (.int .u8 62), .lit (.int .u8 47), .lit (.int .u8 59), .lit (.int .u8 36), .lit (.int .u8 45), .lit (.int .u8 43), .lit (.int .u8 51), .lit (.int .u8 22), .lit (.int .u8 53), .lit (.int .u8 39), .lit (.int .u8 33), .lit (.int .u8 30), .lit (.int .u8 24), .lit (.int .u8 18), .lit (.int .u8 12), .lit (.int .u8 5), .lit (.int .u8 63), .lit (.int .u8 55), .lit (.int .u8 48), .lit (.int .u8 27), .lit (.int .u8 60), .lit (.int .u8 41), .lit (.int .u8 37), .lit (.int .u8 16), .lit (.int .u8 46), .lit (.int .u8 35), .lit (.int .u8 44), .lit (.int .u8 21), .lit (.int .u8 52), .lit (.int .u8 32), .lit (.int .u8 23), .lit (.int .u8 11), .lit (.int .u8 54), .lit (.int .u8 26), .lit (.int .u8 40), .lit (.int .u8 15), .lit (.int .u8 34), .lit (.int .u8 20), .lit (.int .u8 31), .lit (.int .u8 10), .lit (.int .u8 25), .lit (.int .u8 14), .lit (.int .u8 19), .lit (.int .u8 9), .lit (.int .u8 13), .lit (.int .u8 8), .lit (.int .u8 7), .lit (.int .u8 6)]

/-- 'wittingtop.TopDalal': WHATEVER THE INPUT: true; the input reads as it did. -/
def topDalalSpec : ChangeSpec := { name := "topDalal", fn := fun _ => fun
  | [d1, d2] => { results := [.lit (.bool true)], args := [d1, d2] }
  | _ => none }
def topDalalRow : OpenClaim := { program := "ytdlhfihddipjaacdoor", sum := "0ee3ebfd06a2d8cd29c66124ea38c092e3695666a53405e37dc52db40c6e9954", func := "witting/wittingtop.TopDalal", spec := "topDalal", unfollowed := true, recurses := true, named := ["witting/postulates.revision"], plainKeys := false, apart := false, laid := [("witting/postulates.revision", laid_witting_postulates_revision)] }
def TopDalalSaid : Prop := topDalalRow.holds Tryd.pinned (OpenSpec.ofChange topDalalSpec)

/-- ITS FALSE NEIGHBOUR: 'it returns false'. Refute it at one input. -/
def topDalalWrong : ChangeSpec := { name := "topDalal", fn := fun _ => fun
  | [d1, d2] => { results := [.lit (.bool false)], args := [d1, d2] }
  | _ => none }
def TopDalalWrongFalsely : Prop := topDalalRow.holds Tryd.pinned (OpenSpec.ofChange topDalalWrong)

/-- 'wittingtop.TopCommonReached': WHATEVER THE INPUT: true; the input reads as it did. -/
def topCommonReachedSpec : ChangeSpec := { name := "topCommonReached", fn := fun _ => fun
  | [d1, d2] => { results := [.lit (.bool true)], args := [d1, d2] }
  | _ => none }
def topCommonReachedRow : OpenClaim := { program := "ytdlhfihddipjaacdoor", sum := "0ee3ebfd06a2d8cd29c66124ea38c092e3695666a53405e37dc52db40c6e9954", func := "witting/wittingtop.TopCommonReached", spec := "topCommonReached", unfollowed := true, recurses := true, named := ["math/bits.deBruijn64tab"], plainKeys := false, apart := false, laid := [("math/bits.deBruijn64tab", laid_math_bits_deBruijn64tab)] }
def TopCommonReachedSaid : Prop := topCommonReachedRow.holds Tryd.pinned (OpenSpec.ofChange topCommonReachedSpec)

/-- ITS FALSE NEIGHBOUR: 'it returns false'. Refute it at one input. -/
def topCommonReachedWrong : ChangeSpec := { name := "topCommonReached", fn := fun _ => fun
  | [d1, d2] => { results := [.lit (.bool false)], args := [d1, d2] }
  | _ => none }
def TopCommonReachedWrongFalsely : Prop := topCommonReachedRow.holds Tryd.pinned (OpenSpec.ofChange topCommonReachedWrong)

/-- 'wittingtop.TopAgreedValue': WHATEVER THE INPUT: true; the input reads as it did. -/
def topAgreedValueSpec : ChangeSpec := { name := "topAgreedValue", fn := fun _ => fun
  | [d1, d2] => { results := [.lit (.bool true)], args := [d1, d2] }
  | _ => none }
def topAgreedValueRow : OpenClaim := { program := "ytdlhfihddipjaacdoor", sum := "0ee3ebfd06a2d8cd29c66124ea38c092e3695666a53405e37dc52db40c6e9954", func := "witting/wittingtop.TopAgreedValue", spec := "topAgreedValue", unfollowed := true, recurses := true, named := ["math/bits.deBruijn64tab"], plainKeys := false, apart := false, laid := [("math/bits.deBruijn64tab", laid_math_bits_deBruijn64tab)] }
def TopAgreedValueSaid : Prop := topAgreedValueRow.holds Tryd.pinned (OpenSpec.ofChange topAgreedValueSpec)

/-- ITS FALSE NEIGHBOUR: 'it returns false'. Refute it at one input. -/
def topAgreedValueWrong : ChangeSpec := { name := "topAgreedValue", fn := fun _ => fun
  | [d1, d2] => { results := [.lit (.bool false)], args := [d1, d2] }
  | _ => none }
def TopAgreedValueWrongFalsely : Prop := topAgreedValueRow.holds Tryd.pinned (OpenSpec.ofChange topAgreedValueWrong)

/- THE SECOND FORM. 'bulk': how many values and letters a reading holds, each counted each time it is reached (what is shared counts as often as it is met; a slice's spare places count too). A statement '..UptoSaid' is the law's where the arguments, and the package variables that the reading takes, are together of bulk at most 1048576: NARROWER than '..Said'. Prove '..Said' where nothing that the law and all that it calls make is longer than what came in: it says more and counts as full. Else prove '..UptoSaid'. A law counts once. -/
mutual
def uptoBulk {H : Type} : DataW H → Nat
  | .lit (.string bytes) => bytes.length + 1
  | .lit _ => 1
  | .nil => 1
  | .ptr d => uptoBulk d + 1
  | .slice elems spare => uptoBulkAll elems + uptoBulkAll spare + 1
  | .agg parts => uptoBulkAll parts + 1
  | .iface _ d => uptoBulk d + 1
  | .map entries => uptoBulkEntries entries + 1
  | .held _ => 1
def uptoBulkAll {H : Type} : List (DataW H) → Nat
  | [] => 0
  | d :: r => uptoBulk d + uptoBulkAll r
def uptoBulkEntries {H : Type} : List (Lit × DataW H) → Nat
  | [] => 0
  | x :: r => uptoBulkEntry x + uptoBulkEntries r
def uptoBulkEntry {H : Type} : Lit × DataW H → Nat
  | (.string bytes, d) => bytes.length + uptoBulk d + 1
  | (_, d) => uptoBulk d + 1
 end
def uptoSmall : (H : Type) → List (DataW H) → Bool := fun _ ds => decide (uptoBulkAll ds ≤ 1048576)
def OpenSpec.upto (s : _root_.Go.ChangeSpec) : _root_.Go.OpenSpec := { _root_.Go.OpenSpec.ofChange s with cond := some uptoSmall }

/-- 'wittingtop.TopDalal', WHERE WHAT IT READS IS OF BULK AT MOST 1048576: true; the input reads as it did. -/
def topDalalUptoRow : OpenClaim := { program := "ytdlhfihddipjaacdoor", sum := "0ee3ebfd06a2d8cd29c66124ea38c092e3695666a53405e37dc52db40c6e9954", func := "witting/wittingtop.TopDalal", spec := "topDalal", unfollowed := true, recurses := true, named := ["witting/postulates.revision"], plainKeys := false, apart := false, laid := [("witting/postulates.revision", laid_witting_postulates_revision)], narrowed := true }
def TopDalalUptoSaid : Prop := topDalalUptoRow.holds Tryd.pinned (OpenSpec.upto topDalalSpec)

/-- 'wittingtop.TopCommonReached', WHERE WHAT IT READS IS OF BULK AT MOST 1048576: true; the input reads as it did. -/
def topCommonReachedUptoRow : OpenClaim := { program := "ytdlhfihddipjaacdoor", sum := "0ee3ebfd06a2d8cd29c66124ea38c092e3695666a53405e37dc52db40c6e9954", func := "witting/wittingtop.TopCommonReached", spec := "topCommonReached", unfollowed := true, recurses := true, named := ["math/bits.deBruijn64tab"], plainKeys := false, apart := false, laid := [("math/bits.deBruijn64tab", laid_math_bits_deBruijn64tab)], narrowed := true }
def TopCommonReachedUptoSaid : Prop := topCommonReachedUptoRow.holds Tryd.pinned (OpenSpec.upto topCommonReachedSpec)

/-- 'wittingtop.TopAgreedValue', WHERE WHAT IT READS IS OF BULK AT MOST 1048576: true; the input reads as it did. -/
def topAgreedValueUptoRow : OpenClaim := { program := "ytdlhfihddipjaacdoor", sum := "0ee3ebfd06a2d8cd29c66124ea38c092e3695666a53405e37dc52db40c6e9954", func := "witting/wittingtop.TopAgreedValue", spec := "topAgreedValue", unfollowed := true, recurses := true, named := ["math/bits.deBruijn64tab"], plainKeys := false, apart := false, laid := [("math/bits.deBruijn64tab", laid_math_bits_deBruijn64tab)], narrowed := true }
def TopAgreedValueUptoSaid : Prop := topAgreedValueUptoRow.holds Tryd.pinned (OpenSpec.upto topAgreedValueSpec)

end Rows
end Go.Proofs.YtdlhfihddipjaacDoor
