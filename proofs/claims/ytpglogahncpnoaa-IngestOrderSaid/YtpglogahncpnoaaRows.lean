/-
  NARROWER THAN 'FOR EVERY INPUT', by the rows' own cells (each row's printed sentence says how): IngestMarks: loops.
  DERIVED. THE GIVEN ROWS OF THIS SEAT. 4 by the template 'for every input the law returns true; each argument reads behind the call as it read before'; 0 by the template 'total and deterministic' (their statements: YtpglogahncpnoaaTotals.lean).
  GIVEN WITH THE SEED: the statements are not yours to turn. If you find one false, say at which input.
  Laid BY PROGRAM, IN A SANDBOX (cutbox-rows.mjs): the forced cells as the released guide's own fill.sh prints them over the translation 9efc433a556fa9bf… (all of the seat's roots in one cut). By AI agents, Wed Nov 11 2026. No macro, syntax, notation, axiom, sorry.
-/
import Derived.Test.YtpglogahncpnoaaChecked
import GoSem.Claim
import GoSem.ClaimJoined
import GoSem.ClaimMapViews
import Derived.JoinedTies
import Derived.KernelRfl
namespace Go.Proofs.Ytpglogahncpnoaa
/- THE CELL 'sum', in the pinned program and in every row, IS THE sha256 OF THE DUMP (.gsa) THAT YtpglogahncpnoaaProg.lean LOADS. Nothing in Lean hashes anything: it is a label: what it is worth is what the hold of that sum in a sandbox is worth. -/
noncomputable def Try.pinned : Pinned := { name := "ytpglogahncpnoaa", sum := "9efc433a556fa9bf97a326942de1de72edecc328a8589308295127c6e404f885", checked := Try.checked }
namespace Rows
def none {H : Type} : Left H := { results := [], args := [] }

/-- 'asoflaw41.IngestReceives': WHATEVER THE INPUT: true; the input reads as it did. -/
def ingestReceivesSpec : ChangeSpec := { name := "ingestReceives", fn := fun _ => fun
  | [d1, d2] => { results := [.lit (.bool true)], args := [d1, d2] }
  | _ => none }
def ingestReceivesRow : OpenClaim := { program := "ytpglogahncpnoaa", sum := "9efc433a556fa9bf97a326942de1de72edecc328a8589308295127c6e404f885", func := "asof/asoflaw41.IngestReceives", spec := "ingestReceives", inPlace := ["internal/bytealg.IndexByteString", "internal/bytealg.IndexString", "internal/bytealg.abigen_runtime_cmpstring", "slices.overlaps[asof/api.Inbox]"], unfollowed := true, recurses := true, named := ["internal/bytealg.MaxLen"], plainKeys := false, apart := false }
def IngestReceivesSaid : Prop := ingestReceivesRow.holds Try.pinned (OpenSpec.ofChange ingestReceivesSpec)

/-- ITS FALSE NEIGHBOUR: 'it returns false'. Refute it at one input. -/
def ingestReceivesWrong : ChangeSpec := { name := "ingestReceives", fn := fun _ => fun
  | [d1, d2] => { results := [.lit (.bool false)], args := [d1, d2] }
  | _ => none }
def IngestReceivesWrongFalsely : Prop := ingestReceivesRow.holds Try.pinned (OpenSpec.ofChange ingestReceivesWrong)

/-- 'asoflaw41.IngestMarks': WHATEVER THE INPUT: true; the input reads as it did. -/
def ingestMarksSpec : ChangeSpec := { name := "ingestMarks", fn := fun _ => fun
  | [d1, d2] => { results := [.lit (.bool true)], args := [d1, d2] }
  | _ => none }
def ingestMarksRow : OpenClaim := { program := "ytpglogahncpnoaa", sum := "9efc433a556fa9bf97a326942de1de72edecc328a8589308295127c6e404f885", func := "asof/asoflaw41.IngestMarks", spec := "ingestMarks", inPlace := ["internal/bytealg.IndexByteString", "internal/bytealg.IndexString", "internal/bytealg.abigen_runtime_cmpstring", "slices.overlaps[asof/api.Inbox]"], unfollowed := true, recurses := true, named := ["internal/bytealg.MaxLen"], loops := true, plainKeys := false, apart := false }
def IngestMarksSaid : Prop := ingestMarksRow.holds Try.pinned (OpenSpec.ofChange ingestMarksSpec)

/-- ITS FALSE NEIGHBOUR: 'it returns false'. Refute it at one input. -/
def ingestMarksWrong : ChangeSpec := { name := "ingestMarks", fn := fun _ => fun
  | [d1, d2] => { results := [.lit (.bool false)], args := [d1, d2] }
  | _ => none }
def IngestMarksWrongFalsely : Prop := ingestMarksRow.holds Try.pinned (OpenSpec.ofChange ingestMarksWrong)

/-- 'asoflaw41.IngestApart': WHATEVER THE INPUT: true; the input reads as it did. -/
def ingestApartSpec : ChangeSpec := { name := "ingestApart", fn := fun _ => fun
  | [d1, d2] => { results := [.lit (.bool true)], args := [d1, d2] }
  | _ => none }
def ingestApartRow : OpenClaim := { program := "ytpglogahncpnoaa", sum := "9efc433a556fa9bf97a326942de1de72edecc328a8589308295127c6e404f885", func := "asof/asoflaw41.IngestApart", spec := "ingestApart", inPlace := ["internal/bytealg.IndexByteString", "internal/bytealg.IndexString", "internal/bytealg.abigen_runtime_cmpstring", "slices.overlaps[asof/api.Inbox]"], unfollowed := true, recurses := true, named := ["internal/bytealg.MaxLen"], plainKeys := false, apart := false }
def IngestApartSaid : Prop := ingestApartRow.holds Try.pinned (OpenSpec.ofChange ingestApartSpec)

/-- ITS FALSE NEIGHBOUR: 'it returns false'. Refute it at one input. -/
def ingestApartWrong : ChangeSpec := { name := "ingestApart", fn := fun _ => fun
  | [d1, d2] => { results := [.lit (.bool false)], args := [d1, d2] }
  | _ => none }
def IngestApartWrongFalsely : Prop := ingestApartRow.holds Try.pinned (OpenSpec.ofChange ingestApartWrong)

/-- 'asoflaw41.IngestOrder': WHATEVER THE INPUT: true; the input reads as it did. -/
def ingestOrderSpec : ChangeSpec := { name := "ingestOrder", fn := fun _ => fun
  | [d1, d2] => { results := [.lit (.bool true)], args := [d1, d2] }
  | _ => none }
def ingestOrderRow : OpenClaim := { program := "ytpglogahncpnoaa", sum := "9efc433a556fa9bf97a326942de1de72edecc328a8589308295127c6e404f885", func := "asof/asoflaw41.IngestOrder", spec := "ingestOrder", inPlace := ["internal/bytealg.IndexByteString", "internal/bytealg.IndexString", "internal/bytealg.abigen_runtime_cmpstring", "slices.overlaps[asof/api.Inbox]"], unfollowed := true, recurses := true, named := ["internal/bytealg.MaxLen"], plainKeys := false, apart := false }
def IngestOrderSaid : Prop := ingestOrderRow.holds Try.pinned (OpenSpec.ofChange ingestOrderSpec)

/-- ITS FALSE NEIGHBOUR: 'it returns false'. Refute it at one input. -/
def ingestOrderWrong : ChangeSpec := { name := "ingestOrder", fn := fun _ => fun
  | [d1, d2] => { results := [.lit (.bool false)], args := [d1, d2] }
  | _ => none }
def IngestOrderWrongFalsely : Prop := ingestOrderRow.holds Try.pinned (OpenSpec.ofChange ingestOrderWrong)

/- THE SECOND FORM. 'bulk': how many values and letters a reading holds, each counted each time it is reached (what is shared counts as often as it is met; a slice's spare places count too). A statement '..UptoSaid' is the law's where the arguments, and the package variables that the reading takes, are together of bulk at most 1048576: NARROWER than '..Said'. Prove '..Said' where nothing that the law and all that it calls make is longer than what came in: it says more and counts as full. Else prove '..UptoSaid'. A law counts once. -/
mutual
def uptoBulk {H : Type} : DataW H → Nat
  | .lit (.string bytes) => bytes.length + 1
  | .lit _ => 1
  | .nil => 1
  | .ptr d => uptoBulk d + 1
  | .slice elems spare => uptoBulkAll elems + uptoBulkAll spare + 1
  | .agg parts => uptoBulkAll parts + 1
  | .iface _ d => uptoBulk d + 1
  | .map entries => uptoBulkEntries entries + 1
  | .held _ => 1
def uptoBulkAll {H : Type} : List (DataW H) → Nat
  | [] => 0
  | d :: r => uptoBulk d + uptoBulkAll r
def uptoBulkEntries {H : Type} : List (Lit × DataW H) → Nat
  | [] => 0
  | x :: r => uptoBulkEntry x + uptoBulkEntries r
def uptoBulkEntry {H : Type} : Lit × DataW H → Nat
  | (.string bytes, d) => bytes.length + uptoBulk d + 1
  | (_, d) => uptoBulk d + 1
 end
def uptoSmall : (H : Type) → List (DataW H) → Bool := fun _ ds => decide (uptoBulkAll ds ≤ 1048576)
def OpenSpec.upto (s : _root_.Go.ChangeSpec) : _root_.Go.OpenSpec := { _root_.Go.OpenSpec.ofChange s with cond := some uptoSmall }

/-- 'asoflaw41.IngestReceives', WHERE WHAT IT READS IS OF BULK AT MOST 1048576: true; the input reads as it did. -/
def ingestReceivesUptoRow : OpenClaim := { program := "ytpglogahncpnoaa", sum := "9efc433a556fa9bf97a326942de1de72edecc328a8589308295127c6e404f885", func := "asof/asoflaw41.IngestReceives", spec := "ingestReceives", inPlace := ["internal/bytealg.IndexByteString", "internal/bytealg.IndexString", "internal/bytealg.abigen_runtime_cmpstring", "slices.overlaps[asof/api.Inbox]"], unfollowed := true, recurses := true, named := ["internal/bytealg.MaxLen"], plainKeys := false, apart := false, narrowed := true }
def IngestReceivesUptoSaid : Prop := ingestReceivesUptoRow.holds Try.pinned (OpenSpec.upto ingestReceivesSpec)

/-- 'asoflaw41.IngestMarks', WHERE WHAT IT READS IS OF BULK AT MOST 1048576: true; the input reads as it did. -/
def ingestMarksUptoRow : OpenClaim := { program := "ytpglogahncpnoaa", sum := "9efc433a556fa9bf97a326942de1de72edecc328a8589308295127c6e404f885", func := "asof/asoflaw41.IngestMarks", spec := "ingestMarks", inPlace := ["internal/bytealg.IndexByteString", "internal/bytealg.IndexString", "internal/bytealg.abigen_runtime_cmpstring", "slices.overlaps[asof/api.Inbox]"], unfollowed := true, recurses := true, named := ["internal/bytealg.MaxLen"], loops := true, plainKeys := false, apart := false, narrowed := true }
def IngestMarksUptoSaid : Prop := ingestMarksUptoRow.holds Try.pinned (OpenSpec.upto ingestMarksSpec)

/-- 'asoflaw41.IngestApart', WHERE WHAT IT READS IS OF BULK AT MOST 1048576: true; the input reads as it did. -/
def ingestApartUptoRow : OpenClaim := { program := "ytpglogahncpnoaa", sum := "9efc433a556fa9bf97a326942de1de72edecc328a8589308295127c6e404f885", func := "asof/asoflaw41.IngestApart", spec := "ingestApart", inPlace := ["internal/bytealg.IndexByteString", "internal/bytealg.IndexString", "internal/bytealg.abigen_runtime_cmpstring", "slices.overlaps[asof/api.Inbox]"], unfollowed := true, recurses := true, named := ["internal/bytealg.MaxLen"], plainKeys := false, apart := false, narrowed := true }
def IngestApartUptoSaid : Prop := ingestApartUptoRow.holds Try.pinned (OpenSpec.upto ingestApartSpec)

/-- 'asoflaw41.IngestOrder', WHERE WHAT IT READS IS OF BULK AT MOST 1048576: true; the input reads as it did. -/
def ingestOrderUptoRow : OpenClaim := { program := "ytpglogahncpnoaa", sum := "9efc433a556fa9bf97a326942de1de72edecc328a8589308295127c6e404f885", func := "asof/asoflaw41.IngestOrder", spec := "ingestOrder", inPlace := ["internal/bytealg.IndexByteString", "internal/bytealg.IndexString", "internal/bytealg.abigen_runtime_cmpstring", "slices.overlaps[asof/api.Inbox]"], unfollowed := true, recurses := true, named := ["internal/bytealg.MaxLen"], plainKeys := false, apart := false, narrowed := true }
def IngestOrderUptoSaid : Prop := ingestOrderUptoRow.holds Try.pinned (OpenSpec.upto ingestOrderSpec)

end Rows
end Go.Proofs.Ytpglogahncpnoaa
