/-
  No cell of these rows narrows 'for every input' (looked for: loops, veiled, ifaces, maps, wideKeys, modest, calm, conditions, laid).
  DERIVED. THE GIVEN ROWS OF THIS SEAT. 4 by the template 'for every input the law returns true; each argument reads behind the call as it read before'; 0 by the template 'total and deterministic' (their statements: YtpglogahncpnoaaGreatTotals.lean).
  GIVEN WITH THE SEED: the statements are not yours to turn. If you find one false, say at which input.
  Laid BY PROGRAM, IN A SANDBOX (cutbox-rows.mjs): the forced cells as the released guide's own fill.sh prints them over the translation 4911d2a1e7274309… (all of the seat's roots in one cut). By AI agents, Wed Nov 11 2026. No macro, syntax, notation, axiom, sorry.
-/
import Derived.Test.YtpglogahncpnoaaGreatChecked
import GoSem.Claim
import GoSem.ClaimJoined
import GoSem.ClaimMapViews
import Derived.JoinedTies
import Derived.KernelRfl
namespace Go.Proofs.YtpglogahncpnoaaGreat
/- THE CELL 'sum', in the pinned program and in every row, IS THE sha256 OF THE DUMP (.gsa) THAT YtpglogahncpnoaaGreatProg.lean LOADS. Nothing in Lean hashes anything: it is a label: what it is worth is what the hold of that sum in a sandbox is worth. -/
noncomputable def Tryz.pinned : Pinned := { name := "ytpglogahncpnoaagreat", sum := "4911d2a1e7274309fdc5b1d3ca6c8840f083ba7268c82dd4a8b2b269ef05aa34", checked := Tryz.checked }
namespace Rows
def none {H : Type} : Left H := { results := [], args := [] }

/-- 'asoflaw41.IngestSenders': WHATEVER THE INPUT: true; the input reads as it did. -/
def ingestSendersSpec : ChangeSpec := { name := "ingestSenders", fn := fun _ => fun
  | [d1, d2, d3, d4] => { results := [.lit (.bool true)], args := [d1, d2, d3, d4] }
  | _ => none }
def ingestSendersRow : OpenClaim := { program := "ytpglogahncpnoaagreat", sum := "4911d2a1e7274309fdc5b1d3ca6c8840f083ba7268c82dd4a8b2b269ef05aa34", func := "asof/asoflaw41.IngestSenders", spec := "ingestSenders", inPlace := ["internal/bytealg.IndexByteString", "internal/bytealg.IndexString", "internal/bytealg.abigen_runtime_cmpstring", "slices.overlaps[asof/api.Inbox]"], unfollowed := true, recurses := true, named := ["internal/bytealg.MaxLen"], plainKeys := false, apart := false }
def IngestSendersSaid : Prop := ingestSendersRow.holds Tryz.pinned (OpenSpec.ofChange ingestSendersSpec)

/-- ITS FALSE NEIGHBOUR: 'it returns false'. Refute it at one input. -/
def ingestSendersWrong : ChangeSpec := { name := "ingestSenders", fn := fun _ => fun
  | [d1, d2, d3, d4] => { results := [.lit (.bool false)], args := [d1, d2, d3, d4] }
  | _ => none }
def IngestSendersWrongFalsely : Prop := ingestSendersRow.holds Tryz.pinned (OpenSpec.ofChange ingestSendersWrong)

/-- 'asoflaw41.IngestOnce': WHATEVER THE INPUT: true; the input reads as it did. -/
def ingestOnceSpec : ChangeSpec := { name := "ingestOnce", fn := fun _ => fun
  | [d] => { results := [.lit (.bool true)], args := [d] }
  | _ => none }
def ingestOnceRow : OpenClaim := { program := "ytpglogahncpnoaagreat", sum := "4911d2a1e7274309fdc5b1d3ca6c8840f083ba7268c82dd4a8b2b269ef05aa34", func := "asof/asoflaw41.IngestOnce", spec := "ingestOnce", inPlace := ["internal/bytealg.IndexByteString", "internal/bytealg.IndexString", "internal/bytealg.abigen_runtime_cmpstring", "slices.overlaps[asof/api.Inbox]"], unfollowed := true, recurses := true, named := ["internal/bytealg.MaxLen"], plainKeys := false, apart := false }
def IngestOnceSaid : Prop := ingestOnceRow.holds Tryz.pinned (OpenSpec.ofChange ingestOnceSpec)

/-- ITS FALSE NEIGHBOUR: 'it returns false'. Refute it at one input. -/
def ingestOnceWrong : ChangeSpec := { name := "ingestOnce", fn := fun _ => fun
  | [d] => { results := [.lit (.bool false)], args := [d] }
  | _ => none }
def IngestOnceWrongFalsely : Prop := ingestOnceRow.holds Tryz.pinned (OpenSpec.ofChange ingestOnceWrong)

/-- 'asoflaw41.IngestOpen': WHATEVER THE INPUT: true; the input reads as it did. -/
def ingestOpenSpec : ChangeSpec := { name := "ingestOpen", fn := fun _ => fun
  | [d] => { results := [.lit (.bool true)], args := [d] }
  | _ => none }
def ingestOpenRow : OpenClaim := { program := "ytpglogahncpnoaagreat", sum := "4911d2a1e7274309fdc5b1d3ca6c8840f083ba7268c82dd4a8b2b269ef05aa34", func := "asof/asoflaw41.IngestOpen", spec := "ingestOpen", inPlace := ["internal/bytealg.IndexByteString", "internal/bytealg.IndexString", "internal/bytealg.abigen_runtime_cmpstring", "slices.overlaps[asof/api.Inbox]"], unfollowed := true, recurses := true, named := ["internal/bytealg.MaxLen"], plainKeys := false, apart := false }
def IngestOpenSaid : Prop := ingestOpenRow.holds Tryz.pinned (OpenSpec.ofChange ingestOpenSpec)

/-- ITS FALSE NEIGHBOUR: 'it returns false'. Refute it at one input. -/
def ingestOpenWrong : ChangeSpec := { name := "ingestOpen", fn := fun _ => fun
  | [d] => { results := [.lit (.bool false)], args := [d] }
  | _ => none }
def IngestOpenWrongFalsely : Prop := ingestOpenRow.holds Tryz.pinned (OpenSpec.ofChange ingestOpenWrong)

/-- 'asoflaw41.IngestWatermarks': WHATEVER THE INPUT: true; the input reads as it did. -/
def ingestWatermarksSpec : ChangeSpec := { name := "ingestWatermarks", fn := fun _ => fun
  | [d1, d2] => { results := [.lit (.bool true)], args := [d1, d2] }
  | _ => none }
def ingestWatermarksRow : OpenClaim := { program := "ytpglogahncpnoaagreat", sum := "4911d2a1e7274309fdc5b1d3ca6c8840f083ba7268c82dd4a8b2b269ef05aa34", func := "asof/asoflaw41.IngestWatermarks", spec := "ingestWatermarks", inPlace := ["internal/bytealg.IndexByteString", "internal/bytealg.IndexString", "internal/bytealg.abigen_runtime_cmpstring", "slices.overlaps[asof/api.Inbox]"], unfollowed := true, recurses := true, named := ["internal/bytealg.MaxLen"], plainKeys := false, apart := false }
def IngestWatermarksSaid : Prop := ingestWatermarksRow.holds Tryz.pinned (OpenSpec.ofChange ingestWatermarksSpec)

/-- ITS FALSE NEIGHBOUR: 'it returns false'. Refute it at one input. -/
def ingestWatermarksWrong : ChangeSpec := { name := "ingestWatermarks", fn := fun _ => fun
  | [d1, d2] => { results := [.lit (.bool false)], args := [d1, d2] }
  | _ => none }
def IngestWatermarksWrongFalsely : Prop := ingestWatermarksRow.holds Tryz.pinned (OpenSpec.ofChange ingestWatermarksWrong)

/- THE SECOND FORM. 'bulk': how many values and letters a reading holds, each counted each time it is reached (what is shared counts as often as it is met; a slice's spare places count too). A statement '..UptoSaid' is the law's where the arguments, and the package variables that the reading takes, are together of bulk at most 1048576: NARROWER than '..Said'. Prove '..Said' where nothing that the law and all that it calls make is longer than what came in: it says more and counts as full. Else prove '..UptoSaid'. A law counts once. -/
mutual
def uptoBulk {H : Type} : DataW H → Nat
  | .lit (.string bytes) => bytes.length + 1
  | .lit _ => 1
  | .nil => 1
  | .ptr d => uptoBulk d + 1
  | .slice elems spare => uptoBulkAll elems + uptoBulkAll spare + 1
  | .agg parts => uptoBulkAll parts + 1
  | .iface _ d => uptoBulk d + 1
  | .map entries => uptoBulkEntries entries + 1
  | .held _ => 1
def uptoBulkAll {H : Type} : List (DataW H) → Nat
  | [] => 0
  | d :: r => uptoBulk d + uptoBulkAll r
def uptoBulkEntries {H : Type} : List (Lit × DataW H) → Nat
  | [] => 0
  | x :: r => uptoBulkEntry x + uptoBulkEntries r
def uptoBulkEntry {H : Type} : Lit × DataW H → Nat
  | (.string bytes, d) => bytes.length + uptoBulk d + 1
  | (_, d) => uptoBulk d + 1
 end
def uptoSmall : (H : Type) → List (DataW H) → Bool := fun _ ds => decide (uptoBulkAll ds ≤ 1048576)
def OpenSpec.upto (s : _root_.Go.ChangeSpec) : _root_.Go.OpenSpec := { _root_.Go.OpenSpec.ofChange s with cond := some uptoSmall }

/-- 'asoflaw41.IngestSenders', WHERE WHAT IT READS IS OF BULK AT MOST 1048576: true; the input reads as it did. -/
def ingestSendersUptoRow : OpenClaim := { program := "ytpglogahncpnoaagreat", sum := "4911d2a1e7274309fdc5b1d3ca6c8840f083ba7268c82dd4a8b2b269ef05aa34", func := "asof/asoflaw41.IngestSenders", spec := "ingestSenders", inPlace := ["internal/bytealg.IndexByteString", "internal/bytealg.IndexString", "internal/bytealg.abigen_runtime_cmpstring", "slices.overlaps[asof/api.Inbox]"], unfollowed := true, recurses := true, named := ["internal/bytealg.MaxLen"], plainKeys := false, apart := false, narrowed := true }
def IngestSendersUptoSaid : Prop := ingestSendersUptoRow.holds Tryz.pinned (OpenSpec.upto ingestSendersSpec)

/-- 'asoflaw41.IngestOnce', WHERE WHAT IT READS IS OF BULK AT MOST 1048576: true; the input reads as it did. -/
def ingestOnceUptoRow : OpenClaim := { program := "ytpglogahncpnoaagreat", sum := "4911d2a1e7274309fdc5b1d3ca6c8840f083ba7268c82dd4a8b2b269ef05aa34", func := "asof/asoflaw41.IngestOnce", spec := "ingestOnce", inPlace := ["internal/bytealg.IndexByteString", "internal/bytealg.IndexString", "internal/bytealg.abigen_runtime_cmpstring", "slices.overlaps[asof/api.Inbox]"], unfollowed := true, recurses := true, named := ["internal/bytealg.MaxLen"], plainKeys := false, apart := false, narrowed := true }
def IngestOnceUptoSaid : Prop := ingestOnceUptoRow.holds Tryz.pinned (OpenSpec.upto ingestOnceSpec)

/-- 'asoflaw41.IngestOpen', WHERE WHAT IT READS IS OF BULK AT MOST 1048576: true; the input reads as it did. -/
def ingestOpenUptoRow : OpenClaim := { program := "ytpglogahncpnoaagreat", sum := "4911d2a1e7274309fdc5b1d3ca6c8840f083ba7268c82dd4a8b2b269ef05aa34", func := "asof/asoflaw41.IngestOpen", spec := "ingestOpen", inPlace := ["internal/bytealg.IndexByteString", "internal/bytealg.IndexString", "internal/bytealg.abigen_runtime_cmpstring", "slices.overlaps[asof/api.Inbox]"], unfollowed := true, recurses := true, named := ["internal/bytealg.MaxLen"], plainKeys := false, apart := false, narrowed := true }
def IngestOpenUptoSaid : Prop := ingestOpenUptoRow.holds Tryz.pinned (OpenSpec.upto ingestOpenSpec)

/-- 'asoflaw41.IngestWatermarks', WHERE WHAT IT READS IS OF BULK AT MOST 1048576: true; the input reads as it did. -/
def ingestWatermarksUptoRow : OpenClaim := { program := "ytpglogahncpnoaagreat", sum := "4911d2a1e7274309fdc5b1d3ca6c8840f083ba7268c82dd4a8b2b269ef05aa34", func := "asof/asoflaw41.IngestWatermarks", spec := "ingestWatermarks", inPlace := ["internal/bytealg.IndexByteString", "internal/bytealg.IndexString", "internal/bytealg.abigen_runtime_cmpstring", "slices.overlaps[asof/api.Inbox]"], unfollowed := true, recurses := true, named := ["internal/bytealg.MaxLen"], plainKeys := false, apart := false, narrowed := true }
def IngestWatermarksUptoSaid : Prop := ingestWatermarksUptoRow.holds Tryz.pinned (OpenSpec.upto ingestWatermarksSpec)

end Rows
end Go.Proofs.YtpglogahncpnoaaGreat
