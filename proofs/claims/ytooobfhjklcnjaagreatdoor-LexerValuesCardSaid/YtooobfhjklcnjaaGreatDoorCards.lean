/-
  DERIVED. GIVEN WITH THE SEED: THE CARDS: each row of YtooobfhjklcnjaaGreatDoorRows.lean that lists a variable, with what it lists TIED to the program's text (the seventh form; the later family's looks); each row that meets fmt, with fmt's text TOLD by the authors' own Lean function (tested against real Go, not proved from fmt's source: count such statements apart). THE CARD IS WHAT COUNTS. Prove the row's statement (the work); the ties are given (YtooobfhjklcnjaaGreatDoorTie.lean); close each card by the builder's one call (the guide's Derived/Test/ToyasCard.lean, 'card_holds'). Laid BY PROGRAM, IN A SANDBOX (cutbox-door.mjs). By AI agents, Wed Nov 11 2026. No macro, syntax, notation, axiom, sorry.
-/
import Derived.Test.YtooobfhjklcnjaaGreatDoorRows
import GoSem.ClaimSeven
namespace Go.Proofs.YtooobfhjklcnjaaGreatDoor
namespace Rows

/-- THE TIED CARD OF 'asoflaw08.LexerValues'. -/
def lexerValuesCard : Claim7 := { stood := { row := lexerValuesRow, standIns := [], harness := (true, "a5e7ffc4ee32e36925633eef25a7d8122706e9ff90bc5793d81cd374c8a17bce"), looks := true }, kinds := [], alts := [], laidByText := true, laidKinds := [.data, .data, .data, .data, .sentinel, .sentinel, .data, .pinned], laidTests := true, laidLooks := .later }
def LexerValuesCardSaid : Prop := Claim7.holds Tryz.pinned (.plain (OpenSpec.ofChange lexerValuesSpec)) lexerValuesCard

/-- THE SECOND FORM's CARD OF 'asoflaw08.LexerValues'. -/
def lexerValuesUptoCard : Claim7 := { stood := { row := lexerValuesUptoRow, standIns := [], harness := (true, "a5e7ffc4ee32e36925633eef25a7d8122706e9ff90bc5793d81cd374c8a17bce"), looks := true }, kinds := [], alts := [], laidByText := true, laidKinds := [.data, .data, .data, .data, .sentinel, .sentinel, .data, .pinned], laidTests := true, laidLooks := .later }
def LexerValuesUptoCardSaid : Prop := Claim7.holds Tryz.pinned (.plain (OpenSpec.upto lexerValuesSpec)) lexerValuesUptoCard
end Rows
end Go.Proofs.YtooobfhjklcnjaaGreatDoor
