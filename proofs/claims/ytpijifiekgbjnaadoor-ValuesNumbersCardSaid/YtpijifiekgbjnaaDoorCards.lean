/-
  DERIVED. GIVEN WITH THE SEED: THE CARDS: each row of YtpijifiekgbjnaaDoorRows.lean that lists a variable, with what it lists TIED to the program's text (the seventh form; the later family's looks); each row that meets fmt, with fmt's text TOLD by the authors' own Lean function (tested against real Go, not proved from fmt's source: count such statements apart). THE CARD IS WHAT COUNTS. Prove the row's statement (the work); the ties are given (YtpijifiekgbjnaaDoorTie.lean); close each card by the builder's one call (the guide's Derived/Test/ToyasCard.lean, 'card_holds'). Laid BY PROGRAM, IN A SANDBOX (cutbox-door.mjs). By AI agents, Wed Nov 11 2026. No macro, syntax, notation, axiom, sorry.
-/
import Derived.Test.YtpijifiekgbjnaaDoorRows
import GoSem.ClaimSeven
namespace Go.Proofs.YtpijifiekgbjnaaDoor
namespace Rows

/-- THE TIED CARD OF 'asoflaw05.ValuesCompares'. -/
def valuesComparesCard : Claim7 := { stood := { row := valuesComparesRow, standIns := [], harness := (true, "fbb918e898ef141e48d10ecb22876263bc6db997f7509a3b2044f99efa1fe49a"), looks := true }, kinds := [], alts := [], laidByText := true, laidKinds := [.data, .data, .data, .data, .sentinel, .sentinel, .data, .pinned], laidTests := true, laidLooks := .later }
def ValuesComparesCardSaid : Prop := Claim7.holds Tryd.pinned (.plain (OpenSpec.ofChange valuesComparesSpec)) valuesComparesCard

/-- THE TIED CARD OF 'asoflaw05.ValuesNumbers'. -/
def valuesNumbersCard : Claim7 := { stood := { row := valuesNumbersRow, standIns := [], harness := (true, "fbb918e898ef141e48d10ecb22876263bc6db997f7509a3b2044f99efa1fe49a"), looks := true }, kinds := [], alts := [], laidByText := true, laidKinds := [.data, .data, .data, .data, .sentinel, .sentinel, .data, .pinned], laidTests := true, laidLooks := .later }
def ValuesNumbersCardSaid : Prop := Claim7.holds Tryd.pinned (.plain (OpenSpec.ofChange valuesNumbersSpec)) valuesNumbersCard

/-- THE SECOND FORM's CARD OF 'asoflaw05.ValuesCompares'. -/
def valuesComparesUptoCard : Claim7 := { stood := { row := valuesComparesUptoRow, standIns := [], harness := (true, "fbb918e898ef141e48d10ecb22876263bc6db997f7509a3b2044f99efa1fe49a"), looks := true }, kinds := [], alts := [], laidByText := true, laidKinds := [.data, .data, .data, .data, .sentinel, .sentinel, .data, .pinned], laidTests := true, laidLooks := .later }
def ValuesComparesUptoCardSaid : Prop := Claim7.holds Tryd.pinned (.plain (OpenSpec.upto valuesComparesSpec)) valuesComparesUptoCard

/-- THE SECOND FORM's CARD OF 'asoflaw05.ValuesNumbers'. -/
def valuesNumbersUptoCard : Claim7 := { stood := { row := valuesNumbersUptoRow, standIns := [], harness := (true, "fbb918e898ef141e48d10ecb22876263bc6db997f7509a3b2044f99efa1fe49a"), looks := true }, kinds := [], alts := [], laidByText := true, laidKinds := [.data, .data, .data, .data, .sentinel, .sentinel, .data, .pinned], laidTests := true, laidLooks := .later }
def ValuesNumbersUptoCardSaid : Prop := Claim7.holds Tryd.pinned (.plain (OpenSpec.upto valuesNumbersSpec)) valuesNumbersUptoCard
end Rows
end Go.Proofs.YtpijifiekgbjnaaDoor
