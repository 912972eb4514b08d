/-
  DERIVED. GIVEN WITH THE SEED: THE CARDS: each row of YtpijifiekgbjnaaGreatDoorRows.lean that lists a variable, with what it lists TIED to the program's text (the seventh form; the later family's looks); each row that meets fmt, with fmt's text TOLD by the authors' own Lean function (tested against real Go, not proved from fmt's source: count such statements apart). THE CARD IS WHAT COUNTS. Prove the row's statement (the work); the ties are given (YtpijifiekgbjnaaGreatDoorTie.lean); close each card by the builder's one call (the guide's Derived/Test/ToyasCard.lean, 'card_holds'). Laid BY PROGRAM, IN A SANDBOX (cutbox-door.mjs). By AI agents, Wed Nov 11 2026. No macro, syntax, notation, axiom, sorry.
-/
import Derived.Test.YtpijifiekgbjnaaGreatDoorRows
import GoSem.ClaimSeven
namespace Go.Proofs.YtpijifiekgbjnaaGreatDoor
namespace Rows

/-- THE TIED CARD OF 'asoflaw05.ValuesChecks'. -/
def valuesChecksCard : Claim7 := { stood := { row := valuesChecksRow, standIns := [], harness := (true, "b35b30e6b5582f3b21032a3398c49345a4da5a01bfb0fc522cb3e47813922df6"), looks := true }, kinds := [], alts := [], laidByText := true, laidKinds := [.data, .data, .data, .data, .sentinel, .sentinel, .data, .pinned], laidTests := true, laidLooks := .later }
def ValuesChecksCardSaid : Prop := Claim7.holds Tryz.pinned (.plain (OpenSpec.ofChange valuesChecksSpec)) valuesChecksCard

/-- THE TIED CARD OF 'asoflaw05.ValuesBytes'. -/
def valuesBytesCard : Claim7 := { stood := { row := valuesBytesRow, standIns := [], harness := (true, "b35b30e6b5582f3b21032a3398c49345a4da5a01bfb0fc522cb3e47813922df6"), looks := true }, kinds := [], alts := [], laidByText := true, laidKinds := [.data, .data, .data, .data, .sentinel, .sentinel, .data, .pinned], laidTests := true, laidLooks := .later }
def ValuesBytesCardSaid : Prop := Claim7.holds Tryz.pinned (.plain (OpenSpec.ofChange valuesBytesSpec)) valuesBytesCard

/-- THE TIED CARD OF 'asoflaw05.ValuesTexts'. -/
def valuesTextsCard : Claim7 := { stood := { row := valuesTextsRow, standIns := [], harness := (true, "b35b30e6b5582f3b21032a3398c49345a4da5a01bfb0fc522cb3e47813922df6"), looks := true }, kinds := [], alts := [], laidByText := true, laidKinds := [.data, .data, .data, .data, .sentinel, .sentinel, .data, .pinned], laidTests := true, laidLooks := .later }
def ValuesTextsCardSaid : Prop := Claim7.holds Tryz.pinned (.plain (OpenSpec.ofChange valuesTextsSpec)) valuesTextsCard

/-- THE TIED CARD OF 'asoflaw05.ValuesBack'. -/
def valuesBackCard : Claim7 := { stood := { row := valuesBackRow, standIns := [], harness := (true, "b35b30e6b5582f3b21032a3398c49345a4da5a01bfb0fc522cb3e47813922df6"), looks := true }, kinds := [], alts := [], laidByText := true, laidKinds := [.data, .data, .data, .data, .sentinel, .sentinel, .data, .pinned], laidTests := true, laidLooks := .later }
def ValuesBackCardSaid : Prop := Claim7.holds Tryz.pinned (.plain (OpenSpec.ofChange valuesBackSpec)) valuesBackCard

/-- THE TIED CARD OF 'asoflaw05.ValuesPrints'. -/
def valuesPrintsCard : Claim7 := { stood := { row := valuesPrintsRow, standIns := [], harness := (true, "b35b30e6b5582f3b21032a3398c49345a4da5a01bfb0fc522cb3e47813922df6"), looks := true }, kinds := [], alts := [], laidByText := true, laidKinds := [.data, .data, .data, .data, .sentinel, .sentinel, .data, .pinned], laidTests := true, laidLooks := .later }
def ValuesPrintsCardSaid : Prop := Claim7.holds Tryz.pinned (.plain (OpenSpec.ofChange valuesPrintsSpec)) valuesPrintsCard

/-- THE TIED CARD OF 'asoflaw05.ValuesShort'. -/
def valuesShortCard : Claim7 := { stood := { row := valuesShortRow, standIns := [], harness := (true, "b35b30e6b5582f3b21032a3398c49345a4da5a01bfb0fc522cb3e47813922df6"), looks := true }, kinds := [], alts := [], laidByText := true, laidKinds := [.data, .data, .data, .data, .sentinel, .sentinel, .data, .pinned], laidTests := true, laidLooks := .later }
def ValuesShortCardSaid : Prop := Claim7.holds Tryz.pinned (.plain (OpenSpec.ofChange valuesShortSpec)) valuesShortCard

/-- THE TIED CARD OF 'asoflaw05.ValuesFrames'. -/
def valuesFramesCard : Claim7 := { stood := { row := valuesFramesRow, standIns := [], harness := (true, "b35b30e6b5582f3b21032a3398c49345a4da5a01bfb0fc522cb3e47813922df6"), looks := true }, kinds := [], alts := [], laidByText := true, laidKinds := [.data, .data, .data, .data, .sentinel, .sentinel, .data, .pinned], laidTests := true, laidLooks := .later }
def ValuesFramesCardSaid : Prop := Claim7.holds Tryz.pinned (.plain (OpenSpec.ofChange valuesFramesSpec)) valuesFramesCard

/-- THE SECOND FORM's CARD OF 'asoflaw05.ValuesChecks'. -/
def valuesChecksUptoCard : Claim7 := { stood := { row := valuesChecksUptoRow, standIns := [], harness := (true, "b35b30e6b5582f3b21032a3398c49345a4da5a01bfb0fc522cb3e47813922df6"), looks := true }, kinds := [], alts := [], laidByText := true, laidKinds := [.data, .data, .data, .data, .sentinel, .sentinel, .data, .pinned], laidTests := true, laidLooks := .later }
def ValuesChecksUptoCardSaid : Prop := Claim7.holds Tryz.pinned (.plain (OpenSpec.upto valuesChecksSpec)) valuesChecksUptoCard

/-- THE SECOND FORM's CARD OF 'asoflaw05.ValuesBytes'. -/
def valuesBytesUptoCard : Claim7 := { stood := { row := valuesBytesUptoRow, standIns := [], harness := (true, "b35b30e6b5582f3b21032a3398c49345a4da5a01bfb0fc522cb3e47813922df6"), looks := true }, kinds := [], alts := [], laidByText := true, laidKinds := [.data, .data, .data, .data, .sentinel, .sentinel, .data, .pinned], laidTests := true, laidLooks := .later }
def ValuesBytesUptoCardSaid : Prop := Claim7.holds Tryz.pinned (.plain (OpenSpec.upto valuesBytesSpec)) valuesBytesUptoCard

/-- THE SECOND FORM's CARD OF 'asoflaw05.ValuesTexts'. -/
def valuesTextsUptoCard : Claim7 := { stood := { row := valuesTextsUptoRow, standIns := [], harness := (true, "b35b30e6b5582f3b21032a3398c49345a4da5a01bfb0fc522cb3e47813922df6"), looks := true }, kinds := [], alts := [], laidByText := true, laidKinds := [.data, .data, .data, .data, .sentinel, .sentinel, .data, .pinned], laidTests := true, laidLooks := .later }
def ValuesTextsUptoCardSaid : Prop := Claim7.holds Tryz.pinned (.plain (OpenSpec.upto valuesTextsSpec)) valuesTextsUptoCard

/-- THE SECOND FORM's CARD OF 'asoflaw05.ValuesBack'. -/
def valuesBackUptoCard : Claim7 := { stood := { row := valuesBackUptoRow, standIns := [], harness := (true, "b35b30e6b5582f3b21032a3398c49345a4da5a01bfb0fc522cb3e47813922df6"), looks := true }, kinds := [], alts := [], laidByText := true, laidKinds := [.data, .data, .data, .data, .sentinel, .sentinel, .data, .pinned], laidTests := true, laidLooks := .later }
def ValuesBackUptoCardSaid : Prop := Claim7.holds Tryz.pinned (.plain (OpenSpec.upto valuesBackSpec)) valuesBackUptoCard

/-- THE SECOND FORM's CARD OF 'asoflaw05.ValuesPrints'. -/
def valuesPrintsUptoCard : Claim7 := { stood := { row := valuesPrintsUptoRow, standIns := [], harness := (true, "b35b30e6b5582f3b21032a3398c49345a4da5a01bfb0fc522cb3e47813922df6"), looks := true }, kinds := [], alts := [], laidByText := true, laidKinds := [.data, .data, .data, .data, .sentinel, .sentinel, .data, .pinned], laidTests := true, laidLooks := .later }
def ValuesPrintsUptoCardSaid : Prop := Claim7.holds Tryz.pinned (.plain (OpenSpec.upto valuesPrintsSpec)) valuesPrintsUptoCard

/-- THE SECOND FORM's CARD OF 'asoflaw05.ValuesShort'. -/
def valuesShortUptoCard : Claim7 := { stood := { row := valuesShortUptoRow, standIns := [], harness := (true, "b35b30e6b5582f3b21032a3398c49345a4da5a01bfb0fc522cb3e47813922df6"), looks := true }, kinds := [], alts := [], laidByText := true, laidKinds := [.data, .data, .data, .data, .sentinel, .sentinel, .data, .pinned], laidTests := true, laidLooks := .later }
def ValuesShortUptoCardSaid : Prop := Claim7.holds Tryz.pinned (.plain (OpenSpec.upto valuesShortSpec)) valuesShortUptoCard

/-- THE SECOND FORM's CARD OF 'asoflaw05.ValuesFrames'. -/
def valuesFramesUptoCard : Claim7 := { stood := { row := valuesFramesUptoRow, standIns := [], harness := (true, "b35b30e6b5582f3b21032a3398c49345a4da5a01bfb0fc522cb3e47813922df6"), looks := true }, kinds := [], alts := [], laidByText := true, laidKinds := [.data, .data, .data, .data, .sentinel, .sentinel, .data, .pinned], laidTests := true, laidLooks := .later }
def ValuesFramesUptoCardSaid : Prop := Claim7.holds Tryz.pinned (.plain (OpenSpec.upto valuesFramesSpec)) valuesFramesUptoCard
end Rows
end Go.Proofs.YtpijifiekgbjnaaGreatDoor
