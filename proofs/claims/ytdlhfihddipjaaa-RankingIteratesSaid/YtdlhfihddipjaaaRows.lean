/-
  No cell of these rows narrows 'for every input' (looked for: loops, veiled, ifaces, maps, wideKeys, modest, calm, conditions, laid).
  DERIVED. THE GIVEN ROWS OF THIS SEAT. 12 by the template 'for every input the law returns true; each argument reads behind the call as it read before'; 0 by the template 'total and deterministic' (their statements: YtdlhfihddipjaaaTotals.lean).
  GIVEN WITH THE SEED: the statements are not yours to turn. If you find one false, say at which input.
  Laid BY PROGRAM, IN A SANDBOX (cutbox-rows.mjs): the forced cells as the released guide's own fill.sh prints them over the translation 4ae94f4ab7be2e75… (all of the seat's roots in one cut). By AI agents, Wed Nov 11 2026. No macro, syntax, notation, axiom, sorry.
-/
import Derived.Test.YtdlhfihddipjaaaChecked
import GoSem.Claim
import GoSem.ClaimJoined
import GoSem.ClaimMapViews
import Derived.JoinedTies
import Derived.KernelRfl
namespace Go.Proofs.Ytdlhfihddipjaaa
/- THE CELL 'sum', in the pinned program and in every row, IS THE sha256 OF THE DUMP (.gsa) THAT YtdlhfihddipjaaaProg.lean LOADS. Nothing in Lean hashes anything: it is a label: what it is worth is what the hold of that sum in a sandbox is worth. -/
noncomputable def Try.pinned : Pinned := { name := "ytdlhfihddipjaaa", sum := "4ae94f4ab7be2e751ce5a5e7bb785bf4ecbb2877e8393dab9d04a7bb0e1139b9", checked := Try.checked }
namespace Rows
def none {H : Type} : Left H := { results := [], args := [] }

/-- 'wittinglaw03.PartitionLattice': WHATEVER THE INPUT: true; the input reads as it did. -/
def partitionLatticeSpec : ChangeSpec := { name := "partitionLattice", fn := fun _ => fun
  | [d1, d2, d3] => { results := [.lit (.bool true)], args := [d1, d2, d3] }
  | _ => none }
def partitionLatticeRow : OpenClaim := { program := "ytdlhfihddipjaaa", sum := "4ae94f4ab7be2e751ce5a5e7bb785bf4ecbb2877e8393dab9d04a7bb0e1139b9", func := "witting/wittinglaw03.PartitionLattice", spec := "partitionLattice", unfollowed := true, recurses := true, plainKeys := false, apart := false }
def PartitionLatticeSaid : Prop := partitionLatticeRow.holds Try.pinned (OpenSpec.ofChange partitionLatticeSpec)

/-- ITS FALSE NEIGHBOUR: 'it returns false'. Refute it at one input. -/
def partitionLatticeWrong : ChangeSpec := { name := "partitionLattice", fn := fun _ => fun
  | [d1, d2, d3] => { results := [.lit (.bool false)], args := [d1, d2, d3] }
  | _ => none }
def PartitionLatticeWrongFalsely : Prop := partitionLatticeRow.holds Try.pinned (OpenSpec.ofChange partitionLatticeWrong)

/-- 'wittinglaw03.PartitionOrder': WHATEVER THE INPUT: true; the input reads as it did. -/
def partitionOrderSpec : ChangeSpec := { name := "partitionOrder", fn := fun _ => fun
  | [d1, d2] => { results := [.lit (.bool true)], args := [d1, d2] }
  | _ => none }
def partitionOrderRow : OpenClaim := { program := "ytdlhfihddipjaaa", sum := "4ae94f4ab7be2e751ce5a5e7bb785bf4ecbb2877e8393dab9d04a7bb0e1139b9", func := "witting/wittinglaw03.PartitionOrder", spec := "partitionOrder", unfollowed := true, recurses := true, plainKeys := false, apart := false }
def PartitionOrderSaid : Prop := partitionOrderRow.holds Try.pinned (OpenSpec.ofChange partitionOrderSpec)

/-- ITS FALSE NEIGHBOUR: 'it returns false'. Refute it at one input. -/
def partitionOrderWrong : ChangeSpec := { name := "partitionOrder", fn := fun _ => fun
  | [d1, d2] => { results := [.lit (.bool false)], args := [d1, d2] }
  | _ => none }
def PartitionOrderWrongFalsely : Prop := partitionOrderRow.holds Try.pinned (OpenSpec.ofChange partitionOrderWrong)

/-- 'wittinglaw03.PartitionChains': WHATEVER THE INPUT: true; the input reads as it did. -/
def partitionChainsSpec : ChangeSpec := { name := "partitionChains", fn := fun _ => fun
  | [d1, d2] => { results := [.lit (.bool true)], args := [d1, d2] }
  | _ => none }
def partitionChainsRow : OpenClaim := { program := "ytdlhfihddipjaaa", sum := "4ae94f4ab7be2e751ce5a5e7bb785bf4ecbb2877e8393dab9d04a7bb0e1139b9", func := "witting/wittinglaw03.PartitionChains", spec := "partitionChains", unfollowed := true, recurses := true, plainKeys := false, apart := false }
def PartitionChainsSaid : Prop := partitionChainsRow.holds Try.pinned (OpenSpec.ofChange partitionChainsSpec)

/-- ITS FALSE NEIGHBOUR: 'it returns false'. Refute it at one input. -/
def partitionChainsWrong : ChangeSpec := { name := "partitionChains", fn := fun _ => fun
  | [d1, d2] => { results := [.lit (.bool false)], args := [d1, d2] }
  | _ => none }
def PartitionChainsWrongFalsely : Prop := partitionChainsRow.holds Try.pinned (OpenSpec.ofChange partitionChainsWrong)

/-- 'wittinglaw03.PartitionBack': WHATEVER THE INPUT: true; the input reads as it did. -/
def partitionBackSpec : ChangeSpec := { name := "partitionBack", fn := fun _ => fun
  | [d] => { results := [.lit (.bool true)], args := [d] }
  | _ => none }
def partitionBackRow : OpenClaim := { program := "ytdlhfihddipjaaa", sum := "4ae94f4ab7be2e751ce5a5e7bb785bf4ecbb2877e8393dab9d04a7bb0e1139b9", func := "witting/wittinglaw03.PartitionBack", spec := "partitionBack", unfollowed := true, recurses := true, plainKeys := false, apart := false }
def PartitionBackSaid : Prop := partitionBackRow.holds Try.pinned (OpenSpec.ofChange partitionBackSpec)

/-- ITS FALSE NEIGHBOUR: 'it returns false'. Refute it at one input. -/
def partitionBackWrong : ChangeSpec := { name := "partitionBack", fn := fun _ => fun
  | [d] => { results := [.lit (.bool false)], args := [d] }
  | _ => none }
def PartitionBackWrongFalsely : Prop := partitionBackRow.holds Try.pinned (OpenSpec.ofChange partitionBackWrong)

/-- 'wittinglaw03.PartitionOf': WHATEVER THE INPUT: true; the input reads as it did. -/
def partitionOfSpec : ChangeSpec := { name := "partitionOf", fn := fun _ => fun
  | [d1, d2] => { results := [.lit (.bool true)], args := [d1, d2] }
  | _ => none }
def partitionOfRow : OpenClaim := { program := "ytdlhfihddipjaaa", sum := "4ae94f4ab7be2e751ce5a5e7bb785bf4ecbb2877e8393dab9d04a7bb0e1139b9", func := "witting/wittinglaw03.PartitionOf", spec := "partitionOf", unfollowed := true, recurses := true, plainKeys := false, apart := false }
def PartitionOfSaid : Prop := partitionOfRow.holds Try.pinned (OpenSpec.ofChange partitionOfSpec)

/-- ITS FALSE NEIGHBOUR: 'it returns false'. Refute it at one input. -/
def partitionOfWrong : ChangeSpec := { name := "partitionOf", fn := fun _ => fun
  | [d1, d2] => { results := [.lit (.bool false)], args := [d1, d2] }
  | _ => none }
def PartitionOfWrongFalsely : Prop := partitionOfRow.holds Try.pinned (OpenSpec.ofChange partitionOfWrong)

/-- 'wittingtop.TopLevi': WHATEVER THE INPUT: true; the input reads as it did. -/
def topLeviSpec : ChangeSpec := { name := "topLevi", fn := fun _ => fun
  | [d1, d2, d3] => { results := [.lit (.bool true)], args := [d1, d2, d3] }
  | _ => none }
def topLeviRow : OpenClaim := { program := "ytdlhfihddipjaaa", sum := "4ae94f4ab7be2e751ce5a5e7bb785bf4ecbb2877e8393dab9d04a7bb0e1139b9", func := "witting/wittingtop.TopLevi", spec := "topLevi", unfollowed := true, recurses := true, plainKeys := false, apart := false }
def TopLeviSaid : Prop := topLeviRow.holds Try.pinned (OpenSpec.ofChange topLeviSpec)

/-- ITS FALSE NEIGHBOUR: 'it returns false'. Refute it at one input. -/
def topLeviWrong : ChangeSpec := { name := "topLevi", fn := fun _ => fun
  | [d1, d2, d3] => { results := [.lit (.bool false)], args := [d1, d2, d3] }
  | _ => none }
def TopLeviWrongFalsely : Prop := topLeviRow.holds Try.pinned (OpenSpec.ofChange topLeviWrong)

/-- 'wittinglaw37.RankingConditions': WHATEVER THE INPUT: true; the input reads as it did. -/
def rankingConditionsSpec : ChangeSpec := { name := "rankingConditions", fn := fun _ => fun
  | [d1, d2, d3] => { results := [.lit (.bool true)], args := [d1, d2, d3] }
  | _ => none }
def rankingConditionsRow : OpenClaim := { program := "ytdlhfihddipjaaa", sum := "4ae94f4ab7be2e751ce5a5e7bb785bf4ecbb2877e8393dab9d04a7bb0e1139b9", func := "witting/wittinglaw37.RankingConditions", spec := "rankingConditions", unfollowed := true, recurses := true, plainKeys := false, apart := false }
def RankingConditionsSaid : Prop := rankingConditionsRow.holds Try.pinned (OpenSpec.ofChange rankingConditionsSpec)

/-- ITS FALSE NEIGHBOUR: 'it returns false'. Refute it at one input. -/
def rankingConditionsWrong : ChangeSpec := { name := "rankingConditions", fn := fun _ => fun
  | [d1, d2, d3] => { results := [.lit (.bool false)], args := [d1, d2, d3] }
  | _ => none }
def RankingConditionsWrongFalsely : Prop := rankingConditionsRow.holds Try.pinned (OpenSpec.ofChange rankingConditionsWrong)

/-- 'wittinglaw37.RankingFirm': WHATEVER THE INPUT: true; the input reads as it did. -/
def rankingFirmSpec : ChangeSpec := { name := "rankingFirm", fn := fun _ => fun
  | [d1, d2, d3] => { results := [.lit (.bool true)], args := [d1, d2, d3] }
  | _ => none }
def rankingFirmRow : OpenClaim := { program := "ytdlhfihddipjaaa", sum := "4ae94f4ab7be2e751ce5a5e7bb785bf4ecbb2877e8393dab9d04a7bb0e1139b9", func := "witting/wittinglaw37.RankingFirm", spec := "rankingFirm", unfollowed := true, recurses := true, plainKeys := false, apart := false }
def RankingFirmSaid : Prop := rankingFirmRow.holds Try.pinned (OpenSpec.ofChange rankingFirmSpec)

/-- ITS FALSE NEIGHBOUR: 'it returns false'. Refute it at one input. -/
def rankingFirmWrong : ChangeSpec := { name := "rankingFirm", fn := fun _ => fun
  | [d1, d2, d3] => { results := [.lit (.bool false)], args := [d1, d2, d3] }
  | _ => none }
def RankingFirmWrongFalsely : Prop := rankingFirmRow.holds Try.pinned (OpenSpec.ofChange rankingFirmWrong)

/-- 'wittingtop.TopLeviTables': WHATEVER THE INPUT: true; the input reads as it did. -/
def topLeviTablesSpec : ChangeSpec := { name := "topLeviTables", fn := fun _ => fun
  | [d1, d2] => { results := [.lit (.bool true)], args := [d1, d2] }
  | _ => none }
def topLeviTablesRow : OpenClaim := { program := "ytdlhfihddipjaaa", sum := "4ae94f4ab7be2e751ce5a5e7bb785bf4ecbb2877e8393dab9d04a7bb0e1139b9", func := "witting/wittingtop.TopLeviTables", spec := "topLeviTables", unfollowed := true, recurses := true, plainKeys := false, apart := false }
def TopLeviTablesSaid : Prop := topLeviTablesRow.holds Try.pinned (OpenSpec.ofChange topLeviTablesSpec)

/-- ITS FALSE NEIGHBOUR: 'it returns false'. Refute it at one input. -/
def topLeviTablesWrong : ChangeSpec := { name := "topLeviTables", fn := fun _ => fun
  | [d1, d2] => { results := [.lit (.bool false)], args := [d1, d2] }
  | _ => none }
def TopLeviTablesWrongFalsely : Prop := topLeviTablesRow.holds Try.pinned (OpenSpec.ofChange topLeviTablesWrong)

/-- 'wittinglaw37.RankingUnions': WHATEVER THE INPUT: true; the input reads as it did. -/
def rankingUnionsSpec : ChangeSpec := { name := "rankingUnions", fn := fun _ => fun
  | [d1, d2, d3] => { results := [.lit (.bool true)], args := [d1, d2, d3] }
  | _ => none }
def rankingUnionsRow : OpenClaim := { program := "ytdlhfihddipjaaa", sum := "4ae94f4ab7be2e751ce5a5e7bb785bf4ecbb2877e8393dab9d04a7bb0e1139b9", func := "witting/wittinglaw37.RankingUnions", spec := "rankingUnions", unfollowed := true, recurses := true, plainKeys := false, apart := false }
def RankingUnionsSaid : Prop := rankingUnionsRow.holds Try.pinned (OpenSpec.ofChange rankingUnionsSpec)

/-- ITS FALSE NEIGHBOUR: 'it returns false'. Refute it at one input. -/
def rankingUnionsWrong : ChangeSpec := { name := "rankingUnions", fn := fun _ => fun
  | [d1, d2, d3] => { results := [.lit (.bool false)], args := [d1, d2, d3] }
  | _ => none }
def RankingUnionsWrongFalsely : Prop := rankingUnionsRow.holds Try.pinned (OpenSpec.ofChange rankingUnionsWrong)

/-- 'wittinglaw37.RankingRanks': WHATEVER THE INPUT: true; the input reads as it did. -/
def rankingRanksSpec : ChangeSpec := { name := "rankingRanks", fn := fun _ => fun
  | [d1, d2, d3] => { results := [.lit (.bool true)], args := [d1, d2, d3] }
  | _ => none }
def rankingRanksRow : OpenClaim := { program := "ytdlhfihddipjaaa", sum := "4ae94f4ab7be2e751ce5a5e7bb785bf4ecbb2877e8393dab9d04a7bb0e1139b9", func := "witting/wittinglaw37.RankingRanks", spec := "rankingRanks", unfollowed := true, recurses := true, plainKeys := false, apart := false }
def RankingRanksSaid : Prop := rankingRanksRow.holds Try.pinned (OpenSpec.ofChange rankingRanksSpec)

/-- ITS FALSE NEIGHBOUR: 'it returns false'. Refute it at one input. -/
def rankingRanksWrong : ChangeSpec := { name := "rankingRanks", fn := fun _ => fun
  | [d1, d2, d3] => { results := [.lit (.bool false)], args := [d1, d2, d3] }
  | _ => none }
def RankingRanksWrongFalsely : Prop := rankingRanksRow.holds Try.pinned (OpenSpec.ofChange rankingRanksWrong)

/-- 'wittinglaw37.RankingIterates': WHATEVER THE INPUT: true; the input reads as it did. -/
def rankingIteratesSpec : ChangeSpec := { name := "rankingIterates", fn := fun _ => fun
  | [d1, d2, d3] => { results := [.lit (.bool true)], args := [d1, d2, d3] }
  | _ => none }
def rankingIteratesRow : OpenClaim := { program := "ytdlhfihddipjaaa", sum := "4ae94f4ab7be2e751ce5a5e7bb785bf4ecbb2877e8393dab9d04a7bb0e1139b9", func := "witting/wittinglaw37.RankingIterates", spec := "rankingIterates", unfollowed := true, recurses := true, plainKeys := false, apart := false }
def RankingIteratesSaid : Prop := rankingIteratesRow.holds Try.pinned (OpenSpec.ofChange rankingIteratesSpec)

/-- ITS FALSE NEIGHBOUR: 'it returns false'. Refute it at one input. -/
def rankingIteratesWrong : ChangeSpec := { name := "rankingIterates", fn := fun _ => fun
  | [d1, d2, d3] => { results := [.lit (.bool false)], args := [d1, d2, d3] }
  | _ => none }
def RankingIteratesWrongFalsely : Prop := rankingIteratesRow.holds Try.pinned (OpenSpec.ofChange rankingIteratesWrong)

/- THE SECOND FORM. 'bulk': how many values and letters a reading holds, each counted each time it is reached (what is shared counts as often as it is met; a slice's spare places count too). A statement '..UptoSaid' is the law's where the arguments, and the package variables that the reading takes, are together of bulk at most 1048576: NARROWER than '..Said'. Prove '..Said' where nothing that the law and all that it calls make is longer than what came in: it says more and counts as full. Else prove '..UptoSaid'. A law counts once. -/
mutual
def uptoBulk {H : Type} : DataW H → Nat
  | .lit (.string bytes) => bytes.length + 1
  | .lit _ => 1
  | .nil => 1
  | .ptr d => uptoBulk d + 1
  | .slice elems spare => uptoBulkAll elems + uptoBulkAll spare + 1
  | .agg parts => uptoBulkAll parts + 1
  | .iface _ d => uptoBulk d + 1
  | .map entries => uptoBulkEntries entries + 1
  | .held _ => 1
def uptoBulkAll {H : Type} : List (DataW H) → Nat
  | [] => 0
  | d :: r => uptoBulk d + uptoBulkAll r
def uptoBulkEntries {H : Type} : List (Lit × DataW H) → Nat
  | [] => 0
  | x :: r => uptoBulkEntry x + uptoBulkEntries r
def uptoBulkEntry {H : Type} : Lit × DataW H → Nat
  | (.string bytes, d) => bytes.length + uptoBulk d + 1
  | (_, d) => uptoBulk d + 1
 end
def uptoSmall : (H : Type) → List (DataW H) → Bool := fun _ ds => decide (uptoBulkAll ds ≤ 1048576)
def OpenSpec.upto (s : _root_.Go.ChangeSpec) : _root_.Go.OpenSpec := { _root_.Go.OpenSpec.ofChange s with cond := some uptoSmall }

/-- 'wittinglaw03.PartitionLattice', WHERE WHAT IT READS IS OF BULK AT MOST 1048576: true; the input reads as it did. -/
def partitionLatticeUptoRow : OpenClaim := { program := "ytdlhfihddipjaaa", sum := "4ae94f4ab7be2e751ce5a5e7bb785bf4ecbb2877e8393dab9d04a7bb0e1139b9", func := "witting/wittinglaw03.PartitionLattice", spec := "partitionLattice", unfollowed := true, recurses := true, plainKeys := false, apart := false, narrowed := true }
def PartitionLatticeUptoSaid : Prop := partitionLatticeUptoRow.holds Try.pinned (OpenSpec.upto partitionLatticeSpec)

/-- 'wittinglaw03.PartitionOrder', WHERE WHAT IT READS IS OF BULK AT MOST 1048576: true; the input reads as it did. -/
def partitionOrderUptoRow : OpenClaim := { program := "ytdlhfihddipjaaa", sum := "4ae94f4ab7be2e751ce5a5e7bb785bf4ecbb2877e8393dab9d04a7bb0e1139b9", func := "witting/wittinglaw03.PartitionOrder", spec := "partitionOrder", unfollowed := true, recurses := true, plainKeys := false, apart := false, narrowed := true }
def PartitionOrderUptoSaid : Prop := partitionOrderUptoRow.holds Try.pinned (OpenSpec.upto partitionOrderSpec)

/-- 'wittinglaw03.PartitionChains', WHERE WHAT IT READS IS OF BULK AT MOST 1048576: true; the input reads as it did. -/
def partitionChainsUptoRow : OpenClaim := { program := "ytdlhfihddipjaaa", sum := "4ae94f4ab7be2e751ce5a5e7bb785bf4ecbb2877e8393dab9d04a7bb0e1139b9", func := "witting/wittinglaw03.PartitionChains", spec := "partitionChains", unfollowed := true, recurses := true, plainKeys := false, apart := false, narrowed := true }
def PartitionChainsUptoSaid : Prop := partitionChainsUptoRow.holds Try.pinned (OpenSpec.upto partitionChainsSpec)

/-- 'wittinglaw03.PartitionBack', WHERE WHAT IT READS IS OF BULK AT MOST 1048576: true; the input reads as it did. -/
def partitionBackUptoRow : OpenClaim := { program := "ytdlhfihddipjaaa", sum := "4ae94f4ab7be2e751ce5a5e7bb785bf4ecbb2877e8393dab9d04a7bb0e1139b9", func := "witting/wittinglaw03.PartitionBack", spec := "partitionBack", unfollowed := true, recurses := true, plainKeys := false, apart := false, narrowed := true }
def PartitionBackUptoSaid : Prop := partitionBackUptoRow.holds Try.pinned (OpenSpec.upto partitionBackSpec)

/-- 'wittinglaw03.PartitionOf', WHERE WHAT IT READS IS OF BULK AT MOST 1048576: true; the input reads as it did. -/
def partitionOfUptoRow : OpenClaim := { program := "ytdlhfihddipjaaa", sum := "4ae94f4ab7be2e751ce5a5e7bb785bf4ecbb2877e8393dab9d04a7bb0e1139b9", func := "witting/wittinglaw03.PartitionOf", spec := "partitionOf", unfollowed := true, recurses := true, plainKeys := false, apart := false, narrowed := true }
def PartitionOfUptoSaid : Prop := partitionOfUptoRow.holds Try.pinned (OpenSpec.upto partitionOfSpec)

/-- 'wittingtop.TopLevi', WHERE WHAT IT READS IS OF BULK AT MOST 1048576: true; the input reads as it did. -/
def topLeviUptoRow : OpenClaim := { program := "ytdlhfihddipjaaa", sum := "4ae94f4ab7be2e751ce5a5e7bb785bf4ecbb2877e8393dab9d04a7bb0e1139b9", func := "witting/wittingtop.TopLevi", spec := "topLevi", unfollowed := true, recurses := true, plainKeys := false, apart := false, narrowed := true }
def TopLeviUptoSaid : Prop := topLeviUptoRow.holds Try.pinned (OpenSpec.upto topLeviSpec)

/-- 'wittinglaw37.RankingConditions', WHERE WHAT IT READS IS OF BULK AT MOST 1048576: true; the input reads as it did. -/
def rankingConditionsUptoRow : OpenClaim := { program := "ytdlhfihddipjaaa", sum := "4ae94f4ab7be2e751ce5a5e7bb785bf4ecbb2877e8393dab9d04a7bb0e1139b9", func := "witting/wittinglaw37.RankingConditions", spec := "rankingConditions", unfollowed := true, recurses := true, plainKeys := false, apart := false, narrowed := true }
def RankingConditionsUptoSaid : Prop := rankingConditionsUptoRow.holds Try.pinned (OpenSpec.upto rankingConditionsSpec)

/-- 'wittinglaw37.RankingFirm', WHERE WHAT IT READS IS OF BULK AT MOST 1048576: true; the input reads as it did. -/
def rankingFirmUptoRow : OpenClaim := { program := "ytdlhfihddipjaaa", sum := "4ae94f4ab7be2e751ce5a5e7bb785bf4ecbb2877e8393dab9d04a7bb0e1139b9", func := "witting/wittinglaw37.RankingFirm", spec := "rankingFirm", unfollowed := true, recurses := true, plainKeys := false, apart := false, narrowed := true }
def RankingFirmUptoSaid : Prop := rankingFirmUptoRow.holds Try.pinned (OpenSpec.upto rankingFirmSpec)

/-- 'wittingtop.TopLeviTables', WHERE WHAT IT READS IS OF BULK AT MOST 1048576: true; the input reads as it did. -/
def topLeviTablesUptoRow : OpenClaim := { program := "ytdlhfihddipjaaa", sum := "4ae94f4ab7be2e751ce5a5e7bb785bf4ecbb2877e8393dab9d04a7bb0e1139b9", func := "witting/wittingtop.TopLeviTables", spec := "topLeviTables", unfollowed := true, recurses := true, plainKeys := false, apart := false, narrowed := true }
def TopLeviTablesUptoSaid : Prop := topLeviTablesUptoRow.holds Try.pinned (OpenSpec.upto topLeviTablesSpec)

/-- 'wittinglaw37.RankingUnions', WHERE WHAT IT READS IS OF BULK AT MOST 1048576: true; the input reads as it did. -/
def rankingUnionsUptoRow : OpenClaim := { program := "ytdlhfihddipjaaa", sum := "4ae94f4ab7be2e751ce5a5e7bb785bf4ecbb2877e8393dab9d04a7bb0e1139b9", func := "witting/wittinglaw37.RankingUnions", spec := "rankingUnions", unfollowed := true, recurses := true, plainKeys := false, apart := false, narrowed := true }
def RankingUnionsUptoSaid : Prop := rankingUnionsUptoRow.holds Try.pinned (OpenSpec.upto rankingUnionsSpec)

/-- 'wittinglaw37.RankingRanks', WHERE WHAT IT READS IS OF BULK AT MOST 1048576: true; the input reads as it did. -/
def rankingRanksUptoRow : OpenClaim := { program := "ytdlhfihddipjaaa", sum := "4ae94f4ab7be2e751ce5a5e7bb785bf4ecbb2877e8393dab9d04a7bb0e1139b9", func := "witting/wittinglaw37.RankingRanks", spec := "rankingRanks", unfollowed := true, recurses := true, plainKeys := false, apart := false, narrowed := true }
def RankingRanksUptoSaid : Prop := rankingRanksUptoRow.holds Try.pinned (OpenSpec.upto rankingRanksSpec)

/-- 'wittinglaw37.RankingIterates', WHERE WHAT IT READS IS OF BULK AT MOST 1048576: true; the input reads as it did. -/
def rankingIteratesUptoRow : OpenClaim := { program := "ytdlhfihddipjaaa", sum := "4ae94f4ab7be2e751ce5a5e7bb785bf4ecbb2877e8393dab9d04a7bb0e1139b9", func := "witting/wittinglaw37.RankingIterates", spec := "rankingIterates", unfollowed := true, recurses := true, plainKeys := false, apart := false, narrowed := true }
def RankingIteratesUptoSaid : Prop := rankingIteratesUptoRow.holds Try.pinned (OpenSpec.upto rankingIteratesSpec)

end Rows
end Go.Proofs.Ytdlhfihddipjaaa
