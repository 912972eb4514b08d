/-
  No cell of these rows narrows 'for every input' (looked for: loops, veiled, ifaces, maps, wideKeys, modest, calm, conditions, laid).
  DERIVED. THE GIVEN ROWS OF THIS SEAT. 9 by the template 'for every input the law returns true; each argument reads behind the call as it read before'; 0 by the template 'total and deterministic' (their statements: YthppcgafanognaaTotals.lean).
  GIVEN WITH THE SEED: the statements are not yours to turn. If you find one false, say at which input.
  Laid BY PROGRAM, IN A SANDBOX (cutbox-rows.mjs): the forced cells as the released guide's own fill.sh prints them over the translation 3f8b295d15d5f447… (all of the seat's roots in one cut). By AI agents, Wed Nov 11 2026. No macro, syntax, notation, axiom, sorry.
-/
import Derived.Test.YthppcgafanognaaChecked
import GoSem.Claim
import GoSem.ClaimJoined
import GoSem.ClaimMapViews
import Derived.JoinedTies
import Derived.KernelRfl
namespace Go.Proofs.Ythppcgafanognaa
/- THE CELL 'sum', in the pinned program and in every row, IS THE sha256 OF THE DUMP (.gsa) THAT YthppcgafanognaaProg.lean LOADS. Nothing in Lean hashes anything: it is a label: what it is worth is what the hold of that sum in a sandbox is worth. -/
noncomputable def Try.pinned : Pinned := { name := "ythppcgafanognaa", sum := "3f8b295d15d5f44765433762484e54a8e7bfb4e12e09fb126065b5d7ebf65703", checked := Try.checked }
namespace Rows
def none {H : Type} : Left H := { results := [], args := [] }

/-- 'asoflaw16.SketchMatchesBuckets': WHATEVER THE INPUT: true; the input reads as it did. -/
def sketchMatchesBucketsSpec : ChangeSpec := { name := "sketchMatchesBuckets", fn := fun _ => fun
  | [d1, d2] => { results := [.lit (.bool true)], args := [d1, d2] }
  | _ => none }
def sketchMatchesBucketsRow : OpenClaim := { program := "ythppcgafanognaa", sum := "3f8b295d15d5f44765433762484e54a8e7bfb4e12e09fb126065b5d7ebf65703", func := "asof/asoflaw16.SketchMatchesBuckets", spec := "sketchMatchesBuckets", unfollowed := true, recurses := true, apart := false }
def SketchMatchesBucketsSaid : Prop := sketchMatchesBucketsRow.holds Try.pinned (OpenSpec.ofChange sketchMatchesBucketsSpec)

/-- ITS FALSE NEIGHBOUR: 'it returns false'. Refute it at one input. -/
def sketchMatchesBucketsWrong : ChangeSpec := { name := "sketchMatchesBuckets", fn := fun _ => fun
  | [d1, d2] => { results := [.lit (.bool false)], args := [d1, d2] }
  | _ => none }
def SketchMatchesBucketsWrongFalsely : Prop := sketchMatchesBucketsRow.holds Try.pinned (OpenSpec.ofChange sketchMatchesBucketsWrong)

/-- 'asoflaw16.SketchMatchesRanks': WHATEVER THE INPUT: true; the input reads as it did. -/
def sketchMatchesRanksSpec : ChangeSpec := { name := "sketchMatchesRanks", fn := fun _ => fun
  | [d1, d2, d3] => { results := [.lit (.bool true)], args := [d1, d2, d3] }
  | _ => none }
def sketchMatchesRanksRow : OpenClaim := { program := "ythppcgafanognaa", sum := "3f8b295d15d5f44765433762484e54a8e7bfb4e12e09fb126065b5d7ebf65703", func := "asof/asoflaw16.SketchMatchesRanks", spec := "sketchMatchesRanks", unfollowed := true, recurses := true, apart := false }
def SketchMatchesRanksSaid : Prop := sketchMatchesRanksRow.holds Try.pinned (OpenSpec.ofChange sketchMatchesRanksSpec)

/-- ITS FALSE NEIGHBOUR: 'it returns false'. Refute it at one input. -/
def sketchMatchesRanksWrong : ChangeSpec := { name := "sketchMatchesRanks", fn := fun _ => fun
  | [d1, d2, d3] => { results := [.lit (.bool false)], args := [d1, d2, d3] }
  | _ => none }
def SketchMatchesRanksWrongFalsely : Prop := sketchMatchesRanksRow.holds Try.pinned (OpenSpec.ofChange sketchMatchesRanksWrong)

/-- 'asoflaw16.SketchRepresentatives': WHATEVER THE INPUT: true; the input reads as it did. -/
def sketchRepresentativesSpec : ChangeSpec := { name := "sketchRepresentatives", fn := fun _ => fun
  | [d] => { results := [.lit (.bool true)], args := [d] }
  | _ => none }
def sketchRepresentativesRow : OpenClaim := { program := "ythppcgafanognaa", sum := "3f8b295d15d5f44765433762484e54a8e7bfb4e12e09fb126065b5d7ebf65703", func := "asof/asoflaw16.SketchRepresentatives", spec := "sketchRepresentatives", unfollowed := true, recurses := true, apart := false }
def SketchRepresentativesSaid : Prop := sketchRepresentativesRow.holds Try.pinned (OpenSpec.ofChange sketchRepresentativesSpec)

/-- ITS FALSE NEIGHBOUR: 'it returns false'. Refute it at one input. -/
def sketchRepresentativesWrong : ChangeSpec := { name := "sketchRepresentatives", fn := fun _ => fun
  | [d] => { results := [.lit (.bool false)], args := [d] }
  | _ => none }
def SketchRepresentativesWrongFalsely : Prop := sketchRepresentativesRow.holds Try.pinned (OpenSpec.ofChange sketchRepresentativesWrong)

/-- 'asoflaw16.SketchRanks': WHATEVER THE INPUT: true; the input reads as it did. -/
def sketchRanksSpec : ChangeSpec := { name := "sketchRanks", fn := fun _ => fun
  | [d1, d2] => { results := [.lit (.bool true)], args := [d1, d2] }
  | _ => none }
def sketchRanksRow : OpenClaim := { program := "ythppcgafanognaa", sum := "3f8b295d15d5f44765433762484e54a8e7bfb4e12e09fb126065b5d7ebf65703", func := "asof/asoflaw16.SketchRanks", spec := "sketchRanks", unfollowed := true, recurses := true, apart := false }
def SketchRanksSaid : Prop := sketchRanksRow.holds Try.pinned (OpenSpec.ofChange sketchRanksSpec)

/-- ITS FALSE NEIGHBOUR: 'it returns false'. Refute it at one input. -/
def sketchRanksWrong : ChangeSpec := { name := "sketchRanks", fn := fun _ => fun
  | [d1, d2] => { results := [.lit (.bool false)], args := [d1, d2] }
  | _ => none }
def SketchRanksWrongFalsely : Prop := sketchRanksRow.holds Try.pinned (OpenSpec.ofChange sketchRanksWrong)

/-- 'asoflaw16.SketchQuantiles': WHATEVER THE INPUT: true; the input reads as it did. -/
def sketchQuantilesSpec : ChangeSpec := { name := "sketchQuantiles", fn := fun _ => fun
  | [d1, d2, d3] => { results := [.lit (.bool true)], args := [d1, d2, d3] }
  | _ => none }
def sketchQuantilesRow : OpenClaim := { program := "ythppcgafanognaa", sum := "3f8b295d15d5f44765433762484e54a8e7bfb4e12e09fb126065b5d7ebf65703", func := "asof/asoflaw16.SketchQuantiles", spec := "sketchQuantiles", unfollowed := true, recurses := true, apart := false }
def SketchQuantilesSaid : Prop := sketchQuantilesRow.holds Try.pinned (OpenSpec.ofChange sketchQuantilesSpec)

/-- ITS FALSE NEIGHBOUR: 'it returns false'. Refute it at one input. -/
def sketchQuantilesWrong : ChangeSpec := { name := "sketchQuantiles", fn := fun _ => fun
  | [d1, d2, d3] => { results := [.lit (.bool false)], args := [d1, d2, d3] }
  | _ => none }
def SketchQuantilesWrongFalsely : Prop := sketchQuantilesRow.holds Try.pinned (OpenSpec.ofChange sketchQuantilesWrong)

/-- 'asoflaw16.SketchMatchesSums': WHATEVER THE INPUT: true; the input reads as it did. -/
def sketchMatchesSumsSpec : ChangeSpec := { name := "sketchMatchesSums", fn := fun _ => fun
  | [d1, d2, d3, d4] => { results := [.lit (.bool true)], args := [d1, d2, d3, d4] }
  | _ => none }
def sketchMatchesSumsRow : OpenClaim := { program := "ythppcgafanognaa", sum := "3f8b295d15d5f44765433762484e54a8e7bfb4e12e09fb126065b5d7ebf65703", func := "asof/asoflaw16.SketchMatchesSums", spec := "sketchMatchesSums", unfollowed := true, recurses := true, apart := false }
def SketchMatchesSumsSaid : Prop := sketchMatchesSumsRow.holds Try.pinned (OpenSpec.ofChange sketchMatchesSumsSpec)

/-- ITS FALSE NEIGHBOUR: 'it returns false'. Refute it at one input. -/
def sketchMatchesSumsWrong : ChangeSpec := { name := "sketchMatchesSums", fn := fun _ => fun
  | [d1, d2, d3, d4] => { results := [.lit (.bool false)], args := [d1, d2, d3, d4] }
  | _ => none }
def SketchMatchesSumsWrongFalsely : Prop := sketchMatchesSumsRow.holds Try.pinned (OpenSpec.ofChange sketchMatchesSumsWrong)

/-- 'asoflaw16.SketchSums': WHATEVER THE INPUT: true; the input reads as it did. -/
def sketchSumsSpec : ChangeSpec := { name := "sketchSums", fn := fun _ => fun
  | [d1, d2, d3] => { results := [.lit (.bool true)], args := [d1, d2, d3] }
  | _ => none }
def sketchSumsRow : OpenClaim := { program := "ythppcgafanognaa", sum := "3f8b295d15d5f44765433762484e54a8e7bfb4e12e09fb126065b5d7ebf65703", func := "asof/asoflaw16.SketchSums", spec := "sketchSums", unfollowed := true, recurses := true, apart := false }
def SketchSumsSaid : Prop := sketchSumsRow.holds Try.pinned (OpenSpec.ofChange sketchSumsSpec)

/-- ITS FALSE NEIGHBOUR: 'it returns false'. Refute it at one input. -/
def sketchSumsWrong : ChangeSpec := { name := "sketchSums", fn := fun _ => fun
  | [d1, d2, d3] => { results := [.lit (.bool false)], args := [d1, d2, d3] }
  | _ => none }
def SketchSumsWrongFalsely : Prop := sketchSumsRow.holds Try.pinned (OpenSpec.ofChange sketchSumsWrong)

/-- 'asoflaw16.SketchParts': WHATEVER THE INPUT: true; the input reads as it did. -/
def sketchPartsSpec : ChangeSpec := { name := "sketchParts", fn := fun _ => fun
  | [d1, d2, d3] => { results := [.lit (.bool true)], args := [d1, d2, d3] }
  | _ => none }
def sketchPartsRow : OpenClaim := { program := "ythppcgafanognaa", sum := "3f8b295d15d5f44765433762484e54a8e7bfb4e12e09fb126065b5d7ebf65703", func := "asof/asoflaw16.SketchParts", spec := "sketchParts", unfollowed := true, recurses := true, apart := false }
def SketchPartsSaid : Prop := sketchPartsRow.holds Try.pinned (OpenSpec.ofChange sketchPartsSpec)

/-- ITS FALSE NEIGHBOUR: 'it returns false'. Refute it at one input. -/
def sketchPartsWrong : ChangeSpec := { name := "sketchParts", fn := fun _ => fun
  | [d1, d2, d3] => { results := [.lit (.bool false)], args := [d1, d2, d3] }
  | _ => none }
def SketchPartsWrongFalsely : Prop := sketchPartsRow.holds Try.pinned (OpenSpec.ofChange sketchPartsWrong)

/-- 'asoflaw16.SketchBuckets': WHATEVER THE INPUT: true; the input reads as it did. -/
def sketchBucketsSpec : ChangeSpec := { name := "sketchBuckets", fn := fun _ => fun
  | [d1, d2] => { results := [.lit (.bool true)], args := [d1, d2] }
  | _ => none }
def sketchBucketsRow : OpenClaim := { program := "ythppcgafanognaa", sum := "3f8b295d15d5f44765433762484e54a8e7bfb4e12e09fb126065b5d7ebf65703", func := "asof/asoflaw16.SketchBuckets", spec := "sketchBuckets", inPlace := ["math/bits.Sub64"], unfollowed := true, recurses := true, apart := false }
def SketchBucketsSaid : Prop := sketchBucketsRow.holds Try.pinned (OpenSpec.ofChange sketchBucketsSpec)

/-- ITS FALSE NEIGHBOUR: 'it returns false'. Refute it at one input. -/
def sketchBucketsWrong : ChangeSpec := { name := "sketchBuckets", fn := fun _ => fun
  | [d1, d2] => { results := [.lit (.bool false)], args := [d1, d2] }
  | _ => none }
def SketchBucketsWrongFalsely : Prop := sketchBucketsRow.holds Try.pinned (OpenSpec.ofChange sketchBucketsWrong)

/- THE SECOND FORM. 'bulk': how many values and letters a reading holds, each counted each time it is reached (what is shared counts as often as it is met; a slice's spare places count too). A statement '..UptoSaid' is the law's where the arguments, and the package variables that the reading takes, are together of bulk at most 1048576: NARROWER than '..Said'. Prove '..Said' where nothing that the law and all that it calls make is longer than what came in: it says more and counts as full. Else prove '..UptoSaid'. A law counts once. -/
mutual
def uptoBulk {H : Type} : DataW H → Nat
  | .lit (.string bytes) => bytes.length + 1
  | .lit _ => 1
  | .nil => 1
  | .ptr d => uptoBulk d + 1
  | .slice elems spare => uptoBulkAll elems + uptoBulkAll spare + 1
  | .agg parts => uptoBulkAll parts + 1
  | .iface _ d => uptoBulk d + 1
  | .map entries => uptoBulkEntries entries + 1
  | .held _ => 1
def uptoBulkAll {H : Type} : List (DataW H) → Nat
  | [] => 0
  | d :: r => uptoBulk d + uptoBulkAll r
def uptoBulkEntries {H : Type} : List (Lit × DataW H) → Nat
  | [] => 0
  | x :: r => uptoBulkEntry x + uptoBulkEntries r
def uptoBulkEntry {H : Type} : Lit × DataW H → Nat
  | (.string bytes, d) => bytes.length + uptoBulk d + 1
  | (_, d) => uptoBulk d + 1
 end
def uptoSmall : (H : Type) → List (DataW H) → Bool := fun _ ds => decide (uptoBulkAll ds ≤ 1048576)
def OpenSpec.upto (s : _root_.Go.ChangeSpec) : _root_.Go.OpenSpec := { _root_.Go.OpenSpec.ofChange s with cond := some uptoSmall }

/-- 'asoflaw16.SketchMatchesBuckets', WHERE WHAT IT READS IS OF BULK AT MOST 1048576: true; the input reads as it did. -/
def sketchMatchesBucketsUptoRow : OpenClaim := { program := "ythppcgafanognaa", sum := "3f8b295d15d5f44765433762484e54a8e7bfb4e12e09fb126065b5d7ebf65703", func := "asof/asoflaw16.SketchMatchesBuckets", spec := "sketchMatchesBuckets", unfollowed := true, recurses := true, apart := false, narrowed := true }
def SketchMatchesBucketsUptoSaid : Prop := sketchMatchesBucketsUptoRow.holds Try.pinned (OpenSpec.upto sketchMatchesBucketsSpec)

/-- 'asoflaw16.SketchMatchesRanks', WHERE WHAT IT READS IS OF BULK AT MOST 1048576: true; the input reads as it did. -/
def sketchMatchesRanksUptoRow : OpenClaim := { program := "ythppcgafanognaa", sum := "3f8b295d15d5f44765433762484e54a8e7bfb4e12e09fb126065b5d7ebf65703", func := "asof/asoflaw16.SketchMatchesRanks", spec := "sketchMatchesRanks", unfollowed := true, recurses := true, apart := false, narrowed := true }
def SketchMatchesRanksUptoSaid : Prop := sketchMatchesRanksUptoRow.holds Try.pinned (OpenSpec.upto sketchMatchesRanksSpec)

/-- 'asoflaw16.SketchRepresentatives', WHERE WHAT IT READS IS OF BULK AT MOST 1048576: true; the input reads as it did. -/
def sketchRepresentativesUptoRow : OpenClaim := { program := "ythppcgafanognaa", sum := "3f8b295d15d5f44765433762484e54a8e7bfb4e12e09fb126065b5d7ebf65703", func := "asof/asoflaw16.SketchRepresentatives", spec := "sketchRepresentatives", unfollowed := true, recurses := true, apart := false, narrowed := true }
def SketchRepresentativesUptoSaid : Prop := sketchRepresentativesUptoRow.holds Try.pinned (OpenSpec.upto sketchRepresentativesSpec)

/-- 'asoflaw16.SketchRanks', WHERE WHAT IT READS IS OF BULK AT MOST 1048576: true; the input reads as it did. -/
def sketchRanksUptoRow : OpenClaim := { program := "ythppcgafanognaa", sum := "3f8b295d15d5f44765433762484e54a8e7bfb4e12e09fb126065b5d7ebf65703", func := "asof/asoflaw16.SketchRanks", spec := "sketchRanks", unfollowed := true, recurses := true, apart := false, narrowed := true }
def SketchRanksUptoSaid : Prop := sketchRanksUptoRow.holds Try.pinned (OpenSpec.upto sketchRanksSpec)

/-- 'asoflaw16.SketchQuantiles', WHERE WHAT IT READS IS OF BULK AT MOST 1048576: true; the input reads as it did. -/
def sketchQuantilesUptoRow : OpenClaim := { program := "ythppcgafanognaa", sum := "3f8b295d15d5f44765433762484e54a8e7bfb4e12e09fb126065b5d7ebf65703", func := "asof/asoflaw16.SketchQuantiles", spec := "sketchQuantiles", unfollowed := true, recurses := true, apart := false, narrowed := true }
def SketchQuantilesUptoSaid : Prop := sketchQuantilesUptoRow.holds Try.pinned (OpenSpec.upto sketchQuantilesSpec)

/-- 'asoflaw16.SketchMatchesSums', WHERE WHAT IT READS IS OF BULK AT MOST 1048576: true; the input reads as it did. -/
def sketchMatchesSumsUptoRow : OpenClaim := { program := "ythppcgafanognaa", sum := "3f8b295d15d5f44765433762484e54a8e7bfb4e12e09fb126065b5d7ebf65703", func := "asof/asoflaw16.SketchMatchesSums", spec := "sketchMatchesSums", unfollowed := true, recurses := true, apart := false, narrowed := true }
def SketchMatchesSumsUptoSaid : Prop := sketchMatchesSumsUptoRow.holds Try.pinned (OpenSpec.upto sketchMatchesSumsSpec)

/-- 'asoflaw16.SketchSums', WHERE WHAT IT READS IS OF BULK AT MOST 1048576: true; the input reads as it did. -/
def sketchSumsUptoRow : OpenClaim := { program := "ythppcgafanognaa", sum := "3f8b295d15d5f44765433762484e54a8e7bfb4e12e09fb126065b5d7ebf65703", func := "asof/asoflaw16.SketchSums", spec := "sketchSums", unfollowed := true, recurses := true, apart := false, narrowed := true }
def SketchSumsUptoSaid : Prop := sketchSumsUptoRow.holds Try.pinned (OpenSpec.upto sketchSumsSpec)

/-- 'asoflaw16.SketchParts', WHERE WHAT IT READS IS OF BULK AT MOST 1048576: true; the input reads as it did. -/
def sketchPartsUptoRow : OpenClaim := { program := "ythppcgafanognaa", sum := "3f8b295d15d5f44765433762484e54a8e7bfb4e12e09fb126065b5d7ebf65703", func := "asof/asoflaw16.SketchParts", spec := "sketchParts", unfollowed := true, recurses := true, apart := false, narrowed := true }
def SketchPartsUptoSaid : Prop := sketchPartsUptoRow.holds Try.pinned (OpenSpec.upto sketchPartsSpec)

/-- 'asoflaw16.SketchBuckets', WHERE WHAT IT READS IS OF BULK AT MOST 1048576: true; the input reads as it did. -/
def sketchBucketsUptoRow : OpenClaim := { program := "ythppcgafanognaa", sum := "3f8b295d15d5f44765433762484e54a8e7bfb4e12e09fb126065b5d7ebf65703", func := "asof/asoflaw16.SketchBuckets", spec := "sketchBuckets", inPlace := ["math/bits.Sub64"], unfollowed := true, recurses := true, apart := false, narrowed := true }
def SketchBucketsUptoSaid : Prop := sketchBucketsUptoRow.holds Try.pinned (OpenSpec.upto sketchBucketsSpec)

end Rows
end Go.Proofs.Ythppcgafanognaa
