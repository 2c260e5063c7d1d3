/-
  No cell of these rows narrows 'for every input' (looked for: loops, veiled, ifaces, maps, wideKeys, modest, calm, conditions, laid).
  DERIVED. THE GIVEN ROWS OF THIS SEAT. 11 by the template 'for every input the law returns true; each argument reads behind the call as it read before'; 0 by the template 'total and deterministic' (their statements: YtdlhfihddipjaabTotals.lean).
  GIVEN WITH THE SEED: the statements are not yours to turn. If you find one false, say at which input.
  Laid BY PROGRAM, IN A SANDBOX (cutbox-rows.mjs): the forced cells as the released guide's own fill.sh prints them over the translation 9705257b91e2135c… (all of the seat's roots in one cut). By AI agents, Wed Nov 11 2026. No macro, syntax, notation, axiom, sorry.
-/
import Derived.Test.YtdlhfihddipjaabChecked
import GoSem.Claim
import GoSem.ClaimJoined
import GoSem.ClaimMapViews
import Derived.JoinedTies
import Derived.KernelRfl
namespace Go.Proofs.Ytdlhfihddipjaab
/- THE CELL 'sum', in the pinned program and in every row, IS THE sha256 OF THE DUMP (.gsa) THAT YtdlhfihddipjaabProg.lean LOADS. Nothing in Lean hashes anything: it is a label: what it is worth is what the hold of that sum in a sandbox is worth. -/
noncomputable def Try.pinned : Pinned := { name := "ytdlhfihddipjaab", sum := "9705257b91e2135cffbd1af3f4cc22f6d4dad8f5b82f1139dc7f659db3129f3a", checked := Try.checked }
namespace Rows
def none {H : Type} : Left H := { results := [], args := [] }

/-- 'wittinglaw37.RankingGives': WHATEVER THE INPUT: true; the input reads as it did. -/
def rankingGivesSpec : ChangeSpec := { name := "rankingGives", fn := fun _ => fun
  | [d1, d2, d3] => { results := [.lit (.bool true)], args := [d1, d2, d3] }
  | _ => none }
def rankingGivesRow : OpenClaim := { program := "ytdlhfihddipjaab", sum := "9705257b91e2135cffbd1af3f4cc22f6d4dad8f5b82f1139dc7f659db3129f3a", func := "witting/wittinglaw37.RankingGives", spec := "rankingGives", unfollowed := true, recurses := true, plainKeys := false, apart := false }
def RankingGivesSaid : Prop := rankingGivesRow.holds Try.pinned (OpenSpec.ofChange rankingGivesSpec)

/-- ITS FALSE NEIGHBOUR: 'it returns false'. Refute it at one input. -/
def rankingGivesWrong : ChangeSpec := { name := "rankingGives", fn := fun _ => fun
  | [d1, d2, d3] => { results := [.lit (.bool false)], args := [d1, d2, d3] }
  | _ => none }
def RankingGivesWrongFalsely : Prop := rankingGivesRow.holds Try.pinned (OpenSpec.ofChange rankingGivesWrong)

/-- 'wittinglaw37.RankingPairs': WHATEVER THE INPUT: true; the input reads as it did. -/
def rankingPairsSpec : ChangeSpec := { name := "rankingPairs", fn := fun _ => fun
  | [d1, d2, d3] => { results := [.lit (.bool true)], args := [d1, d2, d3] }
  | _ => none }
def rankingPairsRow : OpenClaim := { program := "ytdlhfihddipjaab", sum := "9705257b91e2135cffbd1af3f4cc22f6d4dad8f5b82f1139dc7f659db3129f3a", func := "witting/wittinglaw37.RankingPairs", spec := "rankingPairs", unfollowed := true, recurses := true, plainKeys := false, apart := false }
def RankingPairsSaid : Prop := rankingPairsRow.holds Try.pinned (OpenSpec.ofChange rankingPairsSpec)

/-- ITS FALSE NEIGHBOUR: 'it returns false'. Refute it at one input. -/
def rankingPairsWrong : ChangeSpec := { name := "rankingPairs", fn := fun _ => fun
  | [d1, d2, d3] => { results := [.lit (.bool false)], args := [d1, d2, d3] }
  | _ => none }
def RankingPairsWrongFalsely : Prop := rankingPairsRow.holds Try.pinned (OpenSpec.ofChange rankingPairsWrong)

/-- 'wittinglaw37.RankingJoins': WHATEVER THE INPUT: true; the input reads as it did. -/
def rankingJoinsSpec : ChangeSpec := { name := "rankingJoins", fn := fun _ => fun
  | [d1, d2, d3] => { results := [.lit (.bool true)], args := [d1, d2, d3] }
  | _ => none }
def rankingJoinsRow : OpenClaim := { program := "ytdlhfihddipjaab", sum := "9705257b91e2135cffbd1af3f4cc22f6d4dad8f5b82f1139dc7f659db3129f3a", func := "witting/wittinglaw37.RankingJoins", spec := "rankingJoins", unfollowed := true, recurses := true, plainKeys := false, apart := false }
def RankingJoinsSaid : Prop := rankingJoinsRow.holds Try.pinned (OpenSpec.ofChange rankingJoinsSpec)

/-- ITS FALSE NEIGHBOUR: 'it returns false'. Refute it at one input. -/
def rankingJoinsWrong : ChangeSpec := { name := "rankingJoins", fn := fun _ => fun
  | [d1, d2, d3] => { results := [.lit (.bool false)], args := [d1, d2, d3] }
  | _ => none }
def RankingJoinsWrongFalsely : Prop := rankingJoinsRow.holds Try.pinned (OpenSpec.ofChange rankingJoinsWrong)

/-- 'wittinglaw24.AgreementExchanges': WHATEVER THE INPUT: true; the input reads as it did. -/
def agreementExchangesSpec : ChangeSpec := { name := "agreementExchanges", fn := fun _ => fun
  | [d1, d2] => { results := [.lit (.bool true)], args := [d1, d2] }
  | _ => none }
def agreementExchangesRow : OpenClaim := { program := "ytdlhfihddipjaab", sum := "9705257b91e2135cffbd1af3f4cc22f6d4dad8f5b82f1139dc7f659db3129f3a", func := "witting/wittinglaw24.AgreementExchanges", spec := "agreementExchanges", unfollowed := true, recurses := true, plainKeys := false, apart := false }
def AgreementExchangesSaid : Prop := agreementExchangesRow.holds Try.pinned (OpenSpec.ofChange agreementExchangesSpec)

/-- ITS FALSE NEIGHBOUR: 'it returns false'. Refute it at one input. -/
def agreementExchangesWrong : ChangeSpec := { name := "agreementExchanges", fn := fun _ => fun
  | [d1, d2] => { results := [.lit (.bool false)], args := [d1, d2] }
  | _ => none }
def AgreementExchangesWrongFalsely : Prop := agreementExchangesRow.holds Try.pinned (OpenSpec.ofChange agreementExchangesWrong)

/-- 'wittinglaw24.AgreementEnds': WHATEVER THE INPUT: true; the input reads as it did. -/
def agreementEndsSpec : ChangeSpec := { name := "agreementEnds", fn := fun _ => fun
  | [d1, d2] => { results := [.lit (.bool true)], args := [d1, d2] }
  | _ => none }
def agreementEndsRow : OpenClaim := { program := "ytdlhfihddipjaab", sum := "9705257b91e2135cffbd1af3f4cc22f6d4dad8f5b82f1139dc7f659db3129f3a", func := "witting/wittinglaw24.AgreementEnds", spec := "agreementEnds", unfollowed := true, recurses := true, plainKeys := false, apart := false }
def AgreementEndsSaid : Prop := agreementEndsRow.holds Try.pinned (OpenSpec.ofChange agreementEndsSpec)

/-- ITS FALSE NEIGHBOUR: 'it returns false'. Refute it at one input. -/
def agreementEndsWrong : ChangeSpec := { name := "agreementEnds", fn := fun _ => fun
  | [d1, d2] => { results := [.lit (.bool false)], args := [d1, d2] }
  | _ => none }
def AgreementEndsWrongFalsely : Prop := agreementEndsRow.holds Try.pinned (OpenSpec.ofChange agreementEndsWrong)

/-- 'wittinglaw24.AgreementPosteriors': WHATEVER THE INPUT: true; the input reads as it did. -/
def agreementPosteriorsSpec : ChangeSpec := { name := "agreementPosteriors", fn := fun _ => fun
  | [d1, d2, d3] => { results := [.lit (.bool true)], args := [d1, d2, d3] }
  | _ => none }
def agreementPosteriorsRow : OpenClaim := { program := "ytdlhfihddipjaab", sum := "9705257b91e2135cffbd1af3f4cc22f6d4dad8f5b82f1139dc7f659db3129f3a", func := "witting/wittinglaw24.AgreementPosteriors", spec := "agreementPosteriors", unfollowed := true, recurses := true, plainKeys := false, apart := false }
def AgreementPosteriorsSaid : Prop := agreementPosteriorsRow.holds Try.pinned (OpenSpec.ofChange agreementPosteriorsSpec)

/-- ITS FALSE NEIGHBOUR: 'it returns false'. Refute it at one input. -/
def agreementPosteriorsWrong : ChangeSpec := { name := "agreementPosteriors", fn := fun _ => fun
  | [d1, d2, d3] => { results := [.lit (.bool false)], args := [d1, d2, d3] }
  | _ => none }
def AgreementPosteriorsWrongFalsely : Prop := agreementPosteriorsRow.holds Try.pinned (OpenSpec.ofChange agreementPosteriorsWrong)

/-- 'wittinglaw24.AgreementCannot': WHATEVER THE INPUT: true; the input reads as it did. -/
def agreementCannotSpec : ChangeSpec := { name := "agreementCannot", fn := fun _ => fun
  | [d1, d2, d3] => { results := [.lit (.bool true)], args := [d1, d2, d3] }
  | _ => none }
def agreementCannotRow : OpenClaim := { program := "ytdlhfihddipjaab", sum := "9705257b91e2135cffbd1af3f4cc22f6d4dad8f5b82f1139dc7f659db3129f3a", func := "witting/wittinglaw24.AgreementCannot", spec := "agreementCannot", unfollowed := true, recurses := true, plainKeys := false, apart := false }
def AgreementCannotSaid : Prop := agreementCannotRow.holds Try.pinned (OpenSpec.ofChange agreementCannotSpec)

/-- ITS FALSE NEIGHBOUR: 'it returns false'. Refute it at one input. -/
def agreementCannotWrong : ChangeSpec := { name := "agreementCannot", fn := fun _ => fun
  | [d1, d2, d3] => { results := [.lit (.bool false)], args := [d1, d2, d3] }
  | _ => none }
def AgreementCannotWrongFalsely : Prop := agreementCannotRow.holds Try.pinned (OpenSpec.ofChange agreementCannotWrong)

/-- 'wittinglaw24.AgreementMeans': WHATEVER THE INPUT: true; the input reads as it did. -/
def agreementMeansSpec : ChangeSpec := { name := "agreementMeans", fn := fun _ => fun
  | [d1, d2, d3] => { results := [.lit (.bool true)], args := [d1, d2, d3] }
  | _ => none }
def agreementMeansRow : OpenClaim := { program := "ytdlhfihddipjaab", sum := "9705257b91e2135cffbd1af3f4cc22f6d4dad8f5b82f1139dc7f659db3129f3a", func := "witting/wittinglaw24.AgreementMeans", spec := "agreementMeans", unfollowed := true, recurses := true, plainKeys := false, apart := false }
def AgreementMeansSaid : Prop := agreementMeansRow.holds Try.pinned (OpenSpec.ofChange agreementMeansSpec)

/-- ITS FALSE NEIGHBOUR: 'it returns false'. Refute it at one input. -/
def agreementMeansWrong : ChangeSpec := { name := "agreementMeans", fn := fun _ => fun
  | [d1, d2, d3] => { results := [.lit (.bool false)], args := [d1, d2, d3] }
  | _ => none }
def AgreementMeansWrongFalsely : Prop := agreementMeansRow.holds Try.pinned (OpenSpec.ofChange agreementMeansWrong)

/-- 'wittinglaw24.AgreementChecks': WHATEVER THE INPUT: true; the input reads as it did. -/
def agreementChecksSpec : ChangeSpec := { name := "agreementChecks", fn := fun _ => fun
  | [d1, d2] => { results := [.lit (.bool true)], args := [d1, d2] }
  | _ => none }
def agreementChecksRow : OpenClaim := { program := "ytdlhfihddipjaab", sum := "9705257b91e2135cffbd1af3f4cc22f6d4dad8f5b82f1139dc7f659db3129f3a", func := "witting/wittinglaw24.AgreementChecks", spec := "agreementChecks", unfollowed := true, recurses := true, plainKeys := false, apart := false }
def AgreementChecksSaid : Prop := agreementChecksRow.holds Try.pinned (OpenSpec.ofChange agreementChecksSpec)

/-- ITS FALSE NEIGHBOUR: 'it returns false'. Refute it at one input. -/
def agreementChecksWrong : ChangeSpec := { name := "agreementChecks", fn := fun _ => fun
  | [d1, d2] => { results := [.lit (.bool false)], args := [d1, d2] }
  | _ => none }
def AgreementChecksWrongFalsely : Prop := agreementChecksRow.holds Try.pinned (OpenSpec.ofChange agreementChecksWrong)

/-- 'wittinglaw24.AgreementTells': WHATEVER THE INPUT: true; the input reads as it did. -/
def agreementTellsSpec : ChangeSpec := { name := "agreementTells", fn := fun _ => fun
  | [d1, d2, d3] => { results := [.lit (.bool true)], args := [d1, d2, d3] }
  | _ => none }
def agreementTellsRow : OpenClaim := { program := "ytdlhfihddipjaab", sum := "9705257b91e2135cffbd1af3f4cc22f6d4dad8f5b82f1139dc7f659db3129f3a", func := "witting/wittinglaw24.AgreementTells", spec := "agreementTells", unfollowed := true, recurses := true, plainKeys := false, apart := false }
def AgreementTellsSaid : Prop := agreementTellsRow.holds Try.pinned (OpenSpec.ofChange agreementTellsSpec)

/-- ITS FALSE NEIGHBOUR: 'it returns false'. Refute it at one input. -/
def agreementTellsWrong : ChangeSpec := { name := "agreementTells", fn := fun _ => fun
  | [d1, d2, d3] => { results := [.lit (.bool false)], args := [d1, d2, d3] }
  | _ => none }
def AgreementTellsWrongFalsely : Prop := agreementTellsRow.holds Try.pinned (OpenSpec.ofChange agreementTellsWrong)

/-- 'wittinglaw24.AgreementDivides': WHATEVER THE INPUT: true; the input reads as it did. -/
def agreementDividesSpec : ChangeSpec := { name := "agreementDivides", fn := fun _ => fun
  | [d1, d2, d3] => { results := [.lit (.bool true)], args := [d1, d2, d3] }
  | _ => none }
def agreementDividesRow : OpenClaim := { program := "ytdlhfihddipjaab", sum := "9705257b91e2135cffbd1af3f4cc22f6d4dad8f5b82f1139dc7f659db3129f3a", func := "witting/wittinglaw24.AgreementDivides", spec := "agreementDivides", unfollowed := true, recurses := true, plainKeys := false, apart := false }
def AgreementDividesSaid : Prop := agreementDividesRow.holds Try.pinned (OpenSpec.ofChange agreementDividesSpec)

/-- ITS FALSE NEIGHBOUR: 'it returns false'. Refute it at one input. -/
def agreementDividesWrong : ChangeSpec := { name := "agreementDivides", fn := fun _ => fun
  | [d1, d2, d3] => { results := [.lit (.bool false)], args := [d1, d2, d3] }
  | _ => none }
def AgreementDividesWrongFalsely : Prop := agreementDividesRow.holds Try.pinned (OpenSpec.ofChange agreementDividesWrong)

/- THE SECOND FORM. 'bulk': how many values and letters a reading holds, each counted each time it is reached (what is shared counts as often as it is met; a slice's spare places count too). A statement '..UptoSaid' is the law's where the arguments, and the package variables that the reading takes, are together of bulk at most 1048576: NARROWER than '..Said'. Prove '..Said' where nothing that the law and all that it calls make is longer than what came in: it says more and counts as full. Else prove '..UptoSaid'. A law counts once. -/
mutual
def uptoBulk {H : Type} : DataW H → Nat
  | .lit (.string bytes) => bytes.length + 1
  | .lit _ => 1
  | .nil => 1
  | .ptr d => uptoBulk d + 1
  | .slice elems spare => uptoBulkAll elems + uptoBulkAll spare + 1
  | .agg parts => uptoBulkAll parts + 1
  | .iface _ d => uptoBulk d + 1
  | .map entries => uptoBulkEntries entries + 1
  | .held _ => 1
def uptoBulkAll {H : Type} : List (DataW H) → Nat
  | [] => 0
  | d :: r => uptoBulk d + uptoBulkAll r
def uptoBulkEntries {H : Type} : List (Lit × DataW H) → Nat
  | [] => 0
  | x :: r => uptoBulkEntry x + uptoBulkEntries r
def uptoBulkEntry {H : Type} : Lit × DataW H → Nat
  | (.string bytes, d) => bytes.length + uptoBulk d + 1
  | (_, d) => uptoBulk d + 1
 end
def uptoSmall : (H : Type) → List (DataW H) → Bool := fun _ ds => decide (uptoBulkAll ds ≤ 1048576)
def OpenSpec.upto (s : _root_.Go.ChangeSpec) : _root_.Go.OpenSpec := { _root_.Go.OpenSpec.ofChange s with cond := some uptoSmall }

/-- 'wittinglaw37.RankingGives', WHERE WHAT IT READS IS OF BULK AT MOST 1048576: true; the input reads as it did. -/
def rankingGivesUptoRow : OpenClaim := { program := "ytdlhfihddipjaab", sum := "9705257b91e2135cffbd1af3f4cc22f6d4dad8f5b82f1139dc7f659db3129f3a", func := "witting/wittinglaw37.RankingGives", spec := "rankingGives", unfollowed := true, recurses := true, plainKeys := false, apart := false, narrowed := true }
def RankingGivesUptoSaid : Prop := rankingGivesUptoRow.holds Try.pinned (OpenSpec.upto rankingGivesSpec)

/-- 'wittinglaw37.RankingPairs', WHERE WHAT IT READS IS OF BULK AT MOST 1048576: true; the input reads as it did. -/
def rankingPairsUptoRow : OpenClaim := { program := "ytdlhfihddipjaab", sum := "9705257b91e2135cffbd1af3f4cc22f6d4dad8f5b82f1139dc7f659db3129f3a", func := "witting/wittinglaw37.RankingPairs", spec := "rankingPairs", unfollowed := true, recurses := true, plainKeys := false, apart := false, narrowed := true }
def RankingPairsUptoSaid : Prop := rankingPairsUptoRow.holds Try.pinned (OpenSpec.upto rankingPairsSpec)

/-- 'wittinglaw37.RankingJoins', WHERE WHAT IT READS IS OF BULK AT MOST 1048576: true; the input reads as it did. -/
def rankingJoinsUptoRow : OpenClaim := { program := "ytdlhfihddipjaab", sum := "9705257b91e2135cffbd1af3f4cc22f6d4dad8f5b82f1139dc7f659db3129f3a", func := "witting/wittinglaw37.RankingJoins", spec := "rankingJoins", unfollowed := true, recurses := true, plainKeys := false, apart := false, narrowed := true }
def RankingJoinsUptoSaid : Prop := rankingJoinsUptoRow.holds Try.pinned (OpenSpec.upto rankingJoinsSpec)

/-- 'wittinglaw24.AgreementExchanges', WHERE WHAT IT READS IS OF BULK AT MOST 1048576: true; the input reads as it did. -/
def agreementExchangesUptoRow : OpenClaim := { program := "ytdlhfihddipjaab", sum := "9705257b91e2135cffbd1af3f4cc22f6d4dad8f5b82f1139dc7f659db3129f3a", func := "witting/wittinglaw24.AgreementExchanges", spec := "agreementExchanges", unfollowed := true, recurses := true, plainKeys := false, apart := false, narrowed := true }
def AgreementExchangesUptoSaid : Prop := agreementExchangesUptoRow.holds Try.pinned (OpenSpec.upto agreementExchangesSpec)

/-- 'wittinglaw24.AgreementEnds', WHERE WHAT IT READS IS OF BULK AT MOST 1048576: true; the input reads as it did. -/
def agreementEndsUptoRow : OpenClaim := { program := "ytdlhfihddipjaab", sum := "9705257b91e2135cffbd1af3f4cc22f6d4dad8f5b82f1139dc7f659db3129f3a", func := "witting/wittinglaw24.AgreementEnds", spec := "agreementEnds", unfollowed := true, recurses := true, plainKeys := false, apart := false, narrowed := true }
def AgreementEndsUptoSaid : Prop := agreementEndsUptoRow.holds Try.pinned (OpenSpec.upto agreementEndsSpec)

/-- 'wittinglaw24.AgreementPosteriors', WHERE WHAT IT READS IS OF BULK AT MOST 1048576: true; the input reads as it did. -/
def agreementPosteriorsUptoRow : OpenClaim := { program := "ytdlhfihddipjaab", sum := "9705257b91e2135cffbd1af3f4cc22f6d4dad8f5b82f1139dc7f659db3129f3a", func := "witting/wittinglaw24.AgreementPosteriors", spec := "agreementPosteriors", unfollowed := true, recurses := true, plainKeys := false, apart := false, narrowed := true }
def AgreementPosteriorsUptoSaid : Prop := agreementPosteriorsUptoRow.holds Try.pinned (OpenSpec.upto agreementPosteriorsSpec)

/-- 'wittinglaw24.AgreementCannot', WHERE WHAT IT READS IS OF BULK AT MOST 1048576: true; the input reads as it did. -/
def agreementCannotUptoRow : OpenClaim := { program := "ytdlhfihddipjaab", sum := "9705257b91e2135cffbd1af3f4cc22f6d4dad8f5b82f1139dc7f659db3129f3a", func := "witting/wittinglaw24.AgreementCannot", spec := "agreementCannot", unfollowed := true, recurses := true, plainKeys := false, apart := false, narrowed := true }
def AgreementCannotUptoSaid : Prop := agreementCannotUptoRow.holds Try.pinned (OpenSpec.upto agreementCannotSpec)

/-- 'wittinglaw24.AgreementMeans', WHERE WHAT IT READS IS OF BULK AT MOST 1048576: true; the input reads as it did. -/
def agreementMeansUptoRow : OpenClaim := { program := "ytdlhfihddipjaab", sum := "9705257b91e2135cffbd1af3f4cc22f6d4dad8f5b82f1139dc7f659db3129f3a", func := "witting/wittinglaw24.AgreementMeans", spec := "agreementMeans", unfollowed := true, recurses := true, plainKeys := false, apart := false, narrowed := true }
def AgreementMeansUptoSaid : Prop := agreementMeansUptoRow.holds Try.pinned (OpenSpec.upto agreementMeansSpec)

/-- 'wittinglaw24.AgreementChecks', WHERE WHAT IT READS IS OF BULK AT MOST 1048576: true; the input reads as it did. -/
def agreementChecksUptoRow : OpenClaim := { program := "ytdlhfihddipjaab", sum := "9705257b91e2135cffbd1af3f4cc22f6d4dad8f5b82f1139dc7f659db3129f3a", func := "witting/wittinglaw24.AgreementChecks", spec := "agreementChecks", unfollowed := true, recurses := true, plainKeys := false, apart := false, narrowed := true }
def AgreementChecksUptoSaid : Prop := agreementChecksUptoRow.holds Try.pinned (OpenSpec.upto agreementChecksSpec)

/-- 'wittinglaw24.AgreementTells', WHERE WHAT IT READS IS OF BULK AT MOST 1048576: true; the input reads as it did. -/
def agreementTellsUptoRow : OpenClaim := { program := "ytdlhfihddipjaab", sum := "9705257b91e2135cffbd1af3f4cc22f6d4dad8f5b82f1139dc7f659db3129f3a", func := "witting/wittinglaw24.AgreementTells", spec := "agreementTells", unfollowed := true, recurses := true, plainKeys := false, apart := false, narrowed := true }
def AgreementTellsUptoSaid : Prop := agreementTellsUptoRow.holds Try.pinned (OpenSpec.upto agreementTellsSpec)

/-- 'wittinglaw24.AgreementDivides', WHERE WHAT IT READS IS OF BULK AT MOST 1048576: true; the input reads as it did. -/
def agreementDividesUptoRow : OpenClaim := { program := "ytdlhfihddipjaab", sum := "9705257b91e2135cffbd1af3f4cc22f6d4dad8f5b82f1139dc7f659db3129f3a", func := "witting/wittinglaw24.AgreementDivides", spec := "agreementDivides", unfollowed := true, recurses := true, plainKeys := false, apart := false, narrowed := true }
def AgreementDividesUptoSaid : Prop := agreementDividesUptoRow.holds Try.pinned (OpenSpec.upto agreementDividesSpec)

end Rows
end Go.Proofs.Ytdlhfihddipjaab
