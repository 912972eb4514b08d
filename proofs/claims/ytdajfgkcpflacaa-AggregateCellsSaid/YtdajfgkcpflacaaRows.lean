/-
  No cell of these rows narrows 'for every input' (looked for: loops, veiled, ifaces, maps, wideKeys, modest, calm, conditions, laid).
  DERIVED. THE GIVEN ROWS OF THIS SEAT. 4 by the template 'for every input the law returns true; each argument reads behind the call as it read before'; 0 by the template 'total and deterministic' (their statements: YtdajfgkcpflacaaTotals.lean).
  GIVEN WITH THE SEED: the statements are not yours to turn. If you find one false, say at which input.
  Laid BY PROGRAM, IN A SANDBOX (cutbox-rows.mjs): the forced cells as the released guide's own fill.sh prints them over the translation 51a176385a89d589… (all of the seat's roots in one cut). By AI agents, Wed Nov 11 2026. No macro, syntax, notation, axiom, sorry.
-/
import Derived.Test.YtdajfgkcpflacaaChecked
import GoSem.Claim
import GoSem.ClaimJoined
import GoSem.ClaimMapViews
import Derived.JoinedTies
import Derived.KernelRfl
namespace Go.Proofs.Ytdajfgkcpflacaa
/- THE CELL 'sum', in the pinned program and in every row, IS THE sha256 OF THE DUMP (.gsa) THAT YtdajfgkcpflacaaProg.lean LOADS. Nothing in Lean hashes anything: it is a label: what it is worth is what the hold of that sum in a sandbox is worth. -/
noncomputable def Try.pinned : Pinned := { name := "ytdajfgkcpflacaa", sum := "51a176385a89d5894216fb21ccd08c88bbfbe52641e0da7f7d7225d4d25afa56", checked := Try.checked }
namespace Rows
def none {H : Type} : Left H := { results := [], args := [] }

/-- 'asoflaw17.AggregateWeights': WHATEVER THE INPUT: true; the input reads as it did. -/
def aggregateWeightsSpec : ChangeSpec := { name := "aggregateWeights", fn := fun _ => fun
  | [d1, d2] => { results := [.lit (.bool true)], args := [d1, d2] }
  | _ => none }
def aggregateWeightsRow : OpenClaim := { program := "ytdajfgkcpflacaa", sum := "51a176385a89d5894216fb21ccd08c88bbfbe52641e0da7f7d7225d4d25afa56", func := "asof/asoflaw17.AggregateWeights", spec := "aggregateWeights", unfollowed := true, recurses := true, plainKeys := false, apart := false }
def AggregateWeightsSaid : Prop := aggregateWeightsRow.holds Try.pinned (OpenSpec.ofChange aggregateWeightsSpec)

/-- ITS FALSE NEIGHBOUR: 'it returns false'. Refute it at one input. -/
def aggregateWeightsWrong : ChangeSpec := { name := "aggregateWeights", fn := fun _ => fun
  | [d1, d2] => { results := [.lit (.bool false)], args := [d1, d2] }
  | _ => none }
def AggregateWeightsWrongFalsely : Prop := aggregateWeightsRow.holds Try.pinned (OpenSpec.ofChange aggregateWeightsWrong)

/-- 'asoflaw17.AggregateOrders': WHATEVER THE INPUT: true; the input reads as it did. -/
def aggregateOrdersSpec : ChangeSpec := { name := "aggregateOrders", fn := fun _ => fun
  | [d1, d2, d3] => { results := [.lit (.bool true)], args := [d1, d2, d3] }
  | _ => none }
def aggregateOrdersRow : OpenClaim := { program := "ytdajfgkcpflacaa", sum := "51a176385a89d5894216fb21ccd08c88bbfbe52641e0da7f7d7225d4d25afa56", func := "asof/asoflaw17.AggregateOrders", spec := "aggregateOrders", unfollowed := true, recurses := true, plainKeys := false, apart := false }
def AggregateOrdersSaid : Prop := aggregateOrdersRow.holds Try.pinned (OpenSpec.ofChange aggregateOrdersSpec)

/-- ITS FALSE NEIGHBOUR: 'it returns false'. Refute it at one input. -/
def aggregateOrdersWrong : ChangeSpec := { name := "aggregateOrders", fn := fun _ => fun
  | [d1, d2, d3] => { results := [.lit (.bool false)], args := [d1, d2, d3] }
  | _ => none }
def AggregateOrdersWrongFalsely : Prop := aggregateOrdersRow.holds Try.pinned (OpenSpec.ofChange aggregateOrdersWrong)

/-- 'asoflaw17.AggregateMerges': WHATEVER THE INPUT: true; the input reads as it did. -/
def aggregateMergesSpec : ChangeSpec := { name := "aggregateMerges", fn := fun _ => fun
  | [d1, d2, d3, d4] => { results := [.lit (.bool true)], args := [d1, d2, d3, d4] }
  | _ => none }
def aggregateMergesRow : OpenClaim := { program := "ytdajfgkcpflacaa", sum := "51a176385a89d5894216fb21ccd08c88bbfbe52641e0da7f7d7225d4d25afa56", func := "asof/asoflaw17.AggregateMerges", spec := "aggregateMerges", unfollowed := true, recurses := true, plainKeys := false, apart := false }
def AggregateMergesSaid : Prop := aggregateMergesRow.holds Try.pinned (OpenSpec.ofChange aggregateMergesSpec)

/-- ITS FALSE NEIGHBOUR: 'it returns false'. Refute it at one input. -/
def aggregateMergesWrong : ChangeSpec := { name := "aggregateMerges", fn := fun _ => fun
  | [d1, d2, d3, d4] => { results := [.lit (.bool false)], args := [d1, d2, d3, d4] }
  | _ => none }
def AggregateMergesWrongFalsely : Prop := aggregateMergesRow.holds Try.pinned (OpenSpec.ofChange aggregateMergesWrong)

/-- 'asoflaw17.AggregateCells': WHATEVER THE INPUT: true; the input reads as it did. -/
def aggregateCellsSpec : ChangeSpec := { name := "aggregateCells", fn := fun _ => fun
  | [d1, d2, d3, d4, d5] => { results := [.lit (.bool true)], args := [d1, d2, d3, d4, d5] }
  | _ => none }
def aggregateCellsRow : OpenClaim := { program := "ytdajfgkcpflacaa", sum := "51a176385a89d5894216fb21ccd08c88bbfbe52641e0da7f7d7225d4d25afa56", func := "asof/asoflaw17.AggregateCells", spec := "aggregateCells", unfollowed := true, recurses := true, plainKeys := false, apart := false }
def AggregateCellsSaid : Prop := aggregateCellsRow.holds Try.pinned (OpenSpec.ofChange aggregateCellsSpec)

/-- ITS FALSE NEIGHBOUR: 'it returns false'. Refute it at one input. -/
def aggregateCellsWrong : ChangeSpec := { name := "aggregateCells", fn := fun _ => fun
  | [d1, d2, d3, d4, d5] => { results := [.lit (.bool false)], args := [d1, d2, d3, d4, d5] }
  | _ => none }
def AggregateCellsWrongFalsely : Prop := aggregateCellsRow.holds Try.pinned (OpenSpec.ofChange aggregateCellsWrong)

/- THE SECOND FORM. 'bulk': how many values and letters a reading holds, each counted each time it is reached (what is shared counts as often as it is met; a slice's spare places count too). A statement '..UptoSaid' is the law's where the arguments, and the package variables that the reading takes, are together of bulk at most 1048576: NARROWER than '..Said'. Prove '..Said' where nothing that the law and all that it calls make is longer than what came in: it says more and counts as full. Else prove '..UptoSaid'. A law counts once. -/
mutual
def uptoBulk {H : Type} : DataW H → Nat
  | .lit (.string bytes) => bytes.length + 1
  | .lit _ => 1
  | .nil => 1
  | .ptr d => uptoBulk d + 1
  | .slice elems spare => uptoBulkAll elems + uptoBulkAll spare + 1
  | .agg parts => uptoBulkAll parts + 1
  | .iface _ d => uptoBulk d + 1
  | .map entries => uptoBulkEntries entries + 1
  | .held _ => 1
def uptoBulkAll {H : Type} : List (DataW H) → Nat
  | [] => 0
  | d :: r => uptoBulk d + uptoBulkAll r
def uptoBulkEntries {H : Type} : List (Lit × DataW H) → Nat
  | [] => 0
  | x :: r => uptoBulkEntry x + uptoBulkEntries r
def uptoBulkEntry {H : Type} : Lit × DataW H → Nat
  | (.string bytes, d) => bytes.length + uptoBulk d + 1
  | (_, d) => uptoBulk d + 1
 end
def uptoSmall : (H : Type) → List (DataW H) → Bool := fun _ ds => decide (uptoBulkAll ds ≤ 1048576)
def OpenSpec.upto (s : _root_.Go.ChangeSpec) : _root_.Go.OpenSpec := { _root_.Go.OpenSpec.ofChange s with cond := some uptoSmall }

/-- 'asoflaw17.AggregateWeights', WHERE WHAT IT READS IS OF BULK AT MOST 1048576: true; the input reads as it did. -/
def aggregateWeightsUptoRow : OpenClaim := { program := "ytdajfgkcpflacaa", sum := "51a176385a89d5894216fb21ccd08c88bbfbe52641e0da7f7d7225d4d25afa56", func := "asof/asoflaw17.AggregateWeights", spec := "aggregateWeights", unfollowed := true, recurses := true, plainKeys := false, apart := false, narrowed := true }
def AggregateWeightsUptoSaid : Prop := aggregateWeightsUptoRow.holds Try.pinned (OpenSpec.upto aggregateWeightsSpec)

/-- 'asoflaw17.AggregateOrders', WHERE WHAT IT READS IS OF BULK AT MOST 1048576: true; the input reads as it did. -/
def aggregateOrdersUptoRow : OpenClaim := { program := "ytdajfgkcpflacaa", sum := "51a176385a89d5894216fb21ccd08c88bbfbe52641e0da7f7d7225d4d25afa56", func := "asof/asoflaw17.AggregateOrders", spec := "aggregateOrders", unfollowed := true, recurses := true, plainKeys := false, apart := false, narrowed := true }
def AggregateOrdersUptoSaid : Prop := aggregateOrdersUptoRow.holds Try.pinned (OpenSpec.upto aggregateOrdersSpec)

/-- 'asoflaw17.AggregateMerges', WHERE WHAT IT READS IS OF BULK AT MOST 1048576: true; the input reads as it did. -/
def aggregateMergesUptoRow : OpenClaim := { program := "ytdajfgkcpflacaa", sum := "51a176385a89d5894216fb21ccd08c88bbfbe52641e0da7f7d7225d4d25afa56", func := "asof/asoflaw17.AggregateMerges", spec := "aggregateMerges", unfollowed := true, recurses := true, plainKeys := false, apart := false, narrowed := true }
def AggregateMergesUptoSaid : Prop := aggregateMergesUptoRow.holds Try.pinned (OpenSpec.upto aggregateMergesSpec)

/-- 'asoflaw17.AggregateCells', WHERE WHAT IT READS IS OF BULK AT MOST 1048576: true; the input reads as it did. -/
def aggregateCellsUptoRow : OpenClaim := { program := "ytdajfgkcpflacaa", sum := "51a176385a89d5894216fb21ccd08c88bbfbe52641e0da7f7d7225d4d25afa56", func := "asof/asoflaw17.AggregateCells", spec := "aggregateCells", unfollowed := true, recurses := true, plainKeys := false, apart := false, narrowed := true }
def AggregateCellsUptoSaid : Prop := aggregateCellsUptoRow.holds Try.pinned (OpenSpec.upto aggregateCellsSpec)

end Rows
end Go.Proofs.Ytdajfgkcpflacaa
