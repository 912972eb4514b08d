/-
  No cell of these rows narrows 'for every input' (looked for: loops, veiled, ifaces, maps, wideKeys, modest, calm, conditions, laid).
  DERIVED. THE GIVEN ROWS OF THIS SEAT. 4 by the template 'for every input the law returns true; each argument reads behind the call as it read before'; 0 by the template 'total and deterministic' (their statements: YtdajfgkcpflacaaGreatTotals.lean).
  GIVEN WITH THE SEED: the statements are not yours to turn. If you find one false, say at which input.
  Laid BY PROGRAM, IN A SANDBOX (cutbox-rows.mjs): the forced cells as the released guide's own fill.sh prints them over the translation 779e8682f85586e8… (all of the seat's roots in one cut). By AI agents, Wed Nov 11 2026. No macro, syntax, notation, axiom, sorry.
-/
import Derived.Test.YtdajfgkcpflacaaGreatChecked
import GoSem.Claim
import GoSem.ClaimJoined
import GoSem.ClaimMapViews
import Derived.JoinedTies
import Derived.KernelRfl
namespace Go.Proofs.YtdajfgkcpflacaaGreat
/- THE CELL 'sum', in the pinned program and in every row, IS THE sha256 OF THE DUMP (.gsa) THAT YtdajfgkcpflacaaGreatProg.lean LOADS. Nothing in Lean hashes anything: it is a label: what it is worth is what the hold of that sum in a sandbox is worth. -/
noncomputable def Tryz.pinned : Pinned := { name := "ytdajfgkcpflacaagreat", sum := "779e8682f85586e8e6adb8067c5ee59100103b63201e5208b9989974914aeb34", checked := Tryz.checked }
namespace Rows
def none {H : Type} : Left H := { results := [], args := [] }

/-- 'asoflaw17.AggregateQuantiles': WHATEVER THE INPUT: true; the input reads as it did. -/
def aggregateQuantilesSpec : ChangeSpec := { name := "aggregateQuantiles", fn := fun _ => fun
  | [d1, d2, d3] => { results := [.lit (.bool true)], args := [d1, d2, d3] }
  | _ => none }
def aggregateQuantilesRow : OpenClaim := { program := "ytdajfgkcpflacaagreat", sum := "779e8682f85586e8e6adb8067c5ee59100103b63201e5208b9989974914aeb34", func := "asof/asoflaw17.AggregateQuantiles", spec := "aggregateQuantiles", unfollowed := true, recurses := true, plainKeys := false, apart := false }
def AggregateQuantilesSaid : Prop := aggregateQuantilesRow.holds Tryz.pinned (OpenSpec.ofChange aggregateQuantilesSpec)

/-- ITS FALSE NEIGHBOUR: 'it returns false'. Refute it at one input. -/
def aggregateQuantilesWrong : ChangeSpec := { name := "aggregateQuantiles", fn := fun _ => fun
  | [d1, d2, d3] => { results := [.lit (.bool false)], args := [d1, d2, d3] }
  | _ => none }
def AggregateQuantilesWrongFalsely : Prop := aggregateQuantilesRow.holds Tryz.pinned (OpenSpec.ofChange aggregateQuantilesWrong)

/-- 'asoflaw17.AggregateDecays': WHATEVER THE INPUT: true; the input reads as it did. -/
def aggregateDecaysSpec : ChangeSpec := { name := "aggregateDecays", fn := fun _ => fun
  | [d1, d2, d3, d4, d5] => { results := [.lit (.bool true)], args := [d1, d2, d3, d4, d5] }
  | _ => none }
def aggregateDecaysRow : OpenClaim := { program := "ytdajfgkcpflacaagreat", sum := "779e8682f85586e8e6adb8067c5ee59100103b63201e5208b9989974914aeb34", func := "asof/asoflaw17.AggregateDecays", spec := "aggregateDecays", inPlace := ["math/bits.Sub64", "math/bits.Add64"], unfollowed := true, recurses := true, named := ["math/bits.divideError", "math/bits.overflowError"], plainKeys := false, apart := false }
def AggregateDecaysSaid : Prop := aggregateDecaysRow.holds Tryz.pinned (OpenSpec.ofChange aggregateDecaysSpec)

/-- ITS FALSE NEIGHBOUR: 'it returns false'. Refute it at one input. -/
def aggregateDecaysWrong : ChangeSpec := { name := "aggregateDecays", fn := fun _ => fun
  | [d1, d2, d3, d4, d5] => { results := [.lit (.bool false)], args := [d1, d2, d3, d4, d5] }
  | _ => none }
def AggregateDecaysWrongFalsely : Prop := aggregateDecaysRow.holds Tryz.pinned (OpenSpec.ofChange aggregateDecaysWrong)

/-- 'asoflaw17.AggregateStates': WHATEVER THE INPUT: true; the input reads as it did. -/
def aggregateStatesSpec : ChangeSpec := { name := "aggregateStates", fn := fun _ => fun
  | [d1, d2, d3, d4] => { results := [.lit (.bool true)], args := [d1, d2, d3, d4] }
  | _ => none }
def aggregateStatesRow : OpenClaim := { program := "ytdajfgkcpflacaagreat", sum := "779e8682f85586e8e6adb8067c5ee59100103b63201e5208b9989974914aeb34", func := "asof/asoflaw17.AggregateStates", spec := "aggregateStates", unfollowed := true, recurses := true, plainKeys := false, apart := false }
def AggregateStatesSaid : Prop := aggregateStatesRow.holds Tryz.pinned (OpenSpec.ofChange aggregateStatesSpec)

/-- ITS FALSE NEIGHBOUR: 'it returns false'. Refute it at one input. -/
def aggregateStatesWrong : ChangeSpec := { name := "aggregateStates", fn := fun _ => fun
  | [d1, d2, d3, d4] => { results := [.lit (.bool false)], args := [d1, d2, d3, d4] }
  | _ => none }
def AggregateStatesWrongFalsely : Prop := aggregateStatesRow.holds Tryz.pinned (OpenSpec.ofChange aggregateStatesWrong)

/-- 'asoflaw17.AggregateMeans': WHATEVER THE INPUT: true; the input reads as it did. -/
def aggregateMeansSpec : ChangeSpec := { name := "aggregateMeans", fn := fun _ => fun
  | [d1, d2] => { results := [.lit (.bool true)], args := [d1, d2] }
  | _ => none }
def aggregateMeansRow : OpenClaim := { program := "ytdajfgkcpflacaagreat", sum := "779e8682f85586e8e6adb8067c5ee59100103b63201e5208b9989974914aeb34", func := "asof/asoflaw17.AggregateMeans", spec := "aggregateMeans", inPlace := ["internal/bytealg.abigen_runtime_cmpstring"], unfollowed := true, recurses := true, named := ["math/bits.divideError", "math/bits.overflowError"], plainKeys := false, apart := false }
def AggregateMeansSaid : Prop := aggregateMeansRow.holds Tryz.pinned (OpenSpec.ofChange aggregateMeansSpec)

/-- ITS FALSE NEIGHBOUR: 'it returns false'. Refute it at one input. -/
def aggregateMeansWrong : ChangeSpec := { name := "aggregateMeans", fn := fun _ => fun
  | [d1, d2] => { results := [.lit (.bool false)], args := [d1, d2] }
  | _ => none }
def AggregateMeansWrongFalsely : Prop := aggregateMeansRow.holds Tryz.pinned (OpenSpec.ofChange aggregateMeansWrong)

/- THE SECOND FORM. 'bulk': how many values and letters a reading holds, each counted each time it is reached (what is shared counts as often as it is met; a slice's spare places count too). A statement '..UptoSaid' is the law's where the arguments, and the package variables that the reading takes, are together of bulk at most 1048576: NARROWER than '..Said'. Prove '..Said' where nothing that the law and all that it calls make is longer than what came in: it says more and counts as full. Else prove '..UptoSaid'. A law counts once. -/
mutual
def uptoBulk {H : Type} : DataW H → Nat
  | .lit (.string bytes) => bytes.length + 1
  | .lit _ => 1
  | .nil => 1
  | .ptr d => uptoBulk d + 1
  | .slice elems spare => uptoBulkAll elems + uptoBulkAll spare + 1
  | .agg parts => uptoBulkAll parts + 1
  | .iface _ d => uptoBulk d + 1
  | .map entries => uptoBulkEntries entries + 1
  | .held _ => 1
def uptoBulkAll {H : Type} : List (DataW H) → Nat
  | [] => 0
  | d :: r => uptoBulk d + uptoBulkAll r
def uptoBulkEntries {H : Type} : List (Lit × DataW H) → Nat
  | [] => 0
  | x :: r => uptoBulkEntry x + uptoBulkEntries r
def uptoBulkEntry {H : Type} : Lit × DataW H → Nat
  | (.string bytes, d) => bytes.length + uptoBulk d + 1
  | (_, d) => uptoBulk d + 1
 end
def uptoSmall : (H : Type) → List (DataW H) → Bool := fun _ ds => decide (uptoBulkAll ds ≤ 1048576)
def OpenSpec.upto (s : _root_.Go.ChangeSpec) : _root_.Go.OpenSpec := { _root_.Go.OpenSpec.ofChange s with cond := some uptoSmall }

/-- 'asoflaw17.AggregateQuantiles', WHERE WHAT IT READS IS OF BULK AT MOST 1048576: true; the input reads as it did. -/
def aggregateQuantilesUptoRow : OpenClaim := { program := "ytdajfgkcpflacaagreat", sum := "779e8682f85586e8e6adb8067c5ee59100103b63201e5208b9989974914aeb34", func := "asof/asoflaw17.AggregateQuantiles", spec := "aggregateQuantiles", unfollowed := true, recurses := true, plainKeys := false, apart := false, narrowed := true }
def AggregateQuantilesUptoSaid : Prop := aggregateQuantilesUptoRow.holds Tryz.pinned (OpenSpec.upto aggregateQuantilesSpec)

/-- 'asoflaw17.AggregateDecays', WHERE WHAT IT READS IS OF BULK AT MOST 1048576: true; the input reads as it did. -/
def aggregateDecaysUptoRow : OpenClaim := { program := "ytdajfgkcpflacaagreat", sum := "779e8682f85586e8e6adb8067c5ee59100103b63201e5208b9989974914aeb34", func := "asof/asoflaw17.AggregateDecays", spec := "aggregateDecays", inPlace := ["math/bits.Sub64", "math/bits.Add64"], unfollowed := true, recurses := true, named := ["math/bits.divideError", "math/bits.overflowError"], plainKeys := false, apart := false, narrowed := true }
def AggregateDecaysUptoSaid : Prop := aggregateDecaysUptoRow.holds Tryz.pinned (OpenSpec.upto aggregateDecaysSpec)

/-- 'asoflaw17.AggregateStates', WHERE WHAT IT READS IS OF BULK AT MOST 1048576: true; the input reads as it did. -/
def aggregateStatesUptoRow : OpenClaim := { program := "ytdajfgkcpflacaagreat", sum := "779e8682f85586e8e6adb8067c5ee59100103b63201e5208b9989974914aeb34", func := "asof/asoflaw17.AggregateStates", spec := "aggregateStates", unfollowed := true, recurses := true, plainKeys := false, apart := false, narrowed := true }
def AggregateStatesUptoSaid : Prop := aggregateStatesUptoRow.holds Tryz.pinned (OpenSpec.upto aggregateStatesSpec)

/-- 'asoflaw17.AggregateMeans', WHERE WHAT IT READS IS OF BULK AT MOST 1048576: true; the input reads as it did. -/
def aggregateMeansUptoRow : OpenClaim := { program := "ytdajfgkcpflacaagreat", sum := "779e8682f85586e8e6adb8067c5ee59100103b63201e5208b9989974914aeb34", func := "asof/asoflaw17.AggregateMeans", spec := "aggregateMeans", inPlace := ["internal/bytealg.abigen_runtime_cmpstring"], unfollowed := true, recurses := true, named := ["math/bits.divideError", "math/bits.overflowError"], plainKeys := false, apart := false, narrowed := true }
def AggregateMeansUptoSaid : Prop := aggregateMeansUptoRow.holds Tryz.pinned (OpenSpec.upto aggregateMeansSpec)

end Rows
end Go.Proofs.YtdajfgkcpflacaaGreat
