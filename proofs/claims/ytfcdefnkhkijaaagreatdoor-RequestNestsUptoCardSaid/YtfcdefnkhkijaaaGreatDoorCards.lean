/-
  DERIVED. GIVEN WITH THE SEED: THE CARDS: each row of YtfcdefnkhkijaaaGreatDoorRows.lean that lists a variable, with what it lists TIED to the program's text (the seventh form; the later family's looks); each row that meets fmt, with fmt's text TOLD by the authors' own Lean function (tested against real Go, not proved from fmt's source: count such statements apart). THE CARD IS WHAT COUNTS. Prove the row's statement (the work); the ties are given (YtfcdefnkhkijaaaGreatDoorTie.lean); close each card by the builder's one call (the guide's Derived/Test/ToyasCard.lean, 'card_holds'). Laid BY PROGRAM, IN A SANDBOX (cutbox-door.mjs). By AI agents, Wed Nov 11 2026. No macro, syntax, notation, axiom, sorry.
-/
import Derived.Test.YtfcdefnkhkijaaaGreatDoorRows
import GoSem.ClaimSeven
namespace Go.Proofs.YtfcdefnkhkijaaaGreatDoor
namespace Rows

/-- THE TIED CARD OF 'asoflaw24.RequestTexts'. -/
def requestTextsCard : Claim7 := { stood := { row := requestTextsRow, standIns := [], harness := (true, "204e7c626f155e357a5c56cbc354fa93c3af2ca538ee031043bdcb5853534b4a"), looks := true }, kinds := [], alts := [], laidByText := true, laidKinds := [.data, .data, .data, .data, .sentinel, .sentinel, .data, .pinned], laidTests := true, laidLooks := .later }
def RequestTextsCardSaid : Prop := Claim7.holds Tryz.pinned (.plain (OpenSpec.ofChange requestTextsSpec)) requestTextsCard

/-- THE TIED CARD OF 'asoflaw24.RequestChecks'. -/
def requestChecksCard : Claim7 := { stood := { row := requestChecksRow, standIns := [], harness := (true, "204e7c626f155e357a5c56cbc354fa93c3af2ca538ee031043bdcb5853534b4a"), looks := true }, kinds := [], alts := [], laidByText := true, laidKinds := [.data, .data, .data, .data, .sentinel, .sentinel, .data, .pinned], laidTests := true, laidLooks := .later }
def RequestChecksCardSaid : Prop := Claim7.holds Tryz.pinned (.plain (OpenSpec.ofChange requestChecksSpec)) requestChecksCard

/-- THE TIED CARD OF 'asoflaw24.RequestFits'. -/
def requestFitsCard : Claim7 := { stood := { row := requestFitsRow, standIns := [], harness := (true, "204e7c626f155e357a5c56cbc354fa93c3af2ca538ee031043bdcb5853534b4a"), looks := true }, kinds := [], alts := [], laidByText := true, laidKinds := [.data, .data, .data, .data, .sentinel, .sentinel, .data, .pinned], laidTests := true, laidLooks := .later }
def RequestFitsCardSaid : Prop := Claim7.holds Tryz.pinned (.plain (OpenSpec.ofChange requestFitsSpec)) requestFitsCard

/-- THE TIED CARD OF 'asoflaw24.RequestNests'. -/
def requestNestsCard : Claim7 := { stood := { row := requestNestsRow, standIns := [], harness := (true, "204e7c626f155e357a5c56cbc354fa93c3af2ca538ee031043bdcb5853534b4a"), looks := true }, kinds := [], alts := [], laidByText := true, laidKinds := [.data, .data, .data, .data, .sentinel, .sentinel, .data, .pinned], laidTests := true, laidLooks := .later }
def RequestNestsCardSaid : Prop := Claim7.holds Tryz.pinned (.plain (OpenSpec.ofChange requestNestsSpec)) requestNestsCard

/-- THE TIED CARD OF 'asoflaw24.RequestBytes'. -/
def requestBytesCard : Claim7 := { stood := { row := requestBytesRow, standIns := [], harness := (true, "204e7c626f155e357a5c56cbc354fa93c3af2ca538ee031043bdcb5853534b4a"), looks := true }, kinds := [], alts := [], laidByText := true, laidKinds := [.data, .data, .data, .data, .sentinel, .sentinel, .data, .pinned], laidTests := true, laidLooks := .later }
def RequestBytesCardSaid : Prop := Claim7.holds Tryz.pinned (.plain (OpenSpec.ofChange requestBytesSpec)) requestBytesCard

/-- THE TIED CARD OF 'asoflaw24.RequestRounds'. -/
def requestRoundsCard : Claim7 := { stood := { row := requestRoundsRow, standIns := [], harness := (true, "204e7c626f155e357a5c56cbc354fa93c3af2ca538ee031043bdcb5853534b4a"), looks := true }, kinds := [], alts := [], laidByText := true, laidKinds := [.data, .data, .data, .data, .sentinel, .sentinel, .data, .pinned], laidTests := true, laidLooks := .later }
def RequestRoundsCardSaid : Prop := Claim7.holds Tryz.pinned (.plain (OpenSpec.ofChange requestRoundsSpec)) requestRoundsCard

/-- THE TIED CARD OF 'asoflaw24.RequestJunk'. -/
def requestJunkCard : Claim7 := { stood := { row := requestJunkRow, standIns := [], harness := (true, "204e7c626f155e357a5c56cbc354fa93c3af2ca538ee031043bdcb5853534b4a"), looks := true }, kinds := [], alts := [], laidByText := true, laidKinds := [.data, .data, .data, .data, .sentinel, .sentinel, .data, .pinned], laidTests := true, laidLooks := .later }
def RequestJunkCardSaid : Prop := Claim7.holds Tryz.pinned (.plain (OpenSpec.ofChange requestJunkSpec)) requestJunkCard

/-- THE SECOND FORM's CARD OF 'asoflaw24.RequestTexts'. -/
def requestTextsUptoCard : Claim7 := { stood := { row := requestTextsUptoRow, standIns := [], harness := (true, "204e7c626f155e357a5c56cbc354fa93c3af2ca538ee031043bdcb5853534b4a"), looks := true }, kinds := [], alts := [], laidByText := true, laidKinds := [.data, .data, .data, .data, .sentinel, .sentinel, .data, .pinned], laidTests := true, laidLooks := .later }
def RequestTextsUptoCardSaid : Prop := Claim7.holds Tryz.pinned (.plain (OpenSpec.upto requestTextsSpec)) requestTextsUptoCard

/-- THE SECOND FORM's CARD OF 'asoflaw24.RequestChecks'. -/
def requestChecksUptoCard : Claim7 := { stood := { row := requestChecksUptoRow, standIns := [], harness := (true, "204e7c626f155e357a5c56cbc354fa93c3af2ca538ee031043bdcb5853534b4a"), looks := true }, kinds := [], alts := [], laidByText := true, laidKinds := [.data, .data, .data, .data, .sentinel, .sentinel, .data, .pinned], laidTests := true, laidLooks := .later }
def RequestChecksUptoCardSaid : Prop := Claim7.holds Tryz.pinned (.plain (OpenSpec.upto requestChecksSpec)) requestChecksUptoCard

/-- THE SECOND FORM's CARD OF 'asoflaw24.RequestFits'. -/
def requestFitsUptoCard : Claim7 := { stood := { row := requestFitsUptoRow, standIns := [], harness := (true, "204e7c626f155e357a5c56cbc354fa93c3af2ca538ee031043bdcb5853534b4a"), looks := true }, kinds := [], alts := [], laidByText := true, laidKinds := [.data, .data, .data, .data, .sentinel, .sentinel, .data, .pinned], laidTests := true, laidLooks := .later }
def RequestFitsUptoCardSaid : Prop := Claim7.holds Tryz.pinned (.plain (OpenSpec.upto requestFitsSpec)) requestFitsUptoCard

/-- THE SECOND FORM's CARD OF 'asoflaw24.RequestNests'. -/
def requestNestsUptoCard : Claim7 := { stood := { row := requestNestsUptoRow, standIns := [], harness := (true, "204e7c626f155e357a5c56cbc354fa93c3af2ca538ee031043bdcb5853534b4a"), looks := true }, kinds := [], alts := [], laidByText := true, laidKinds := [.data, .data, .data, .data, .sentinel, .sentinel, .data, .pinned], laidTests := true, laidLooks := .later }
def RequestNestsUptoCardSaid : Prop := Claim7.holds Tryz.pinned (.plain (OpenSpec.upto requestNestsSpec)) requestNestsUptoCard

/-- THE SECOND FORM's CARD OF 'asoflaw24.RequestBytes'. -/
def requestBytesUptoCard : Claim7 := { stood := { row := requestBytesUptoRow, standIns := [], harness := (true, "204e7c626f155e357a5c56cbc354fa93c3af2ca538ee031043bdcb5853534b4a"), looks := true }, kinds := [], alts := [], laidByText := true, laidKinds := [.data, .data, .data, .data, .sentinel, .sentinel, .data, .pinned], laidTests := true, laidLooks := .later }
def RequestBytesUptoCardSaid : Prop := Claim7.holds Tryz.pinned (.plain (OpenSpec.upto requestBytesSpec)) requestBytesUptoCard

/-- THE SECOND FORM's CARD OF 'asoflaw24.RequestRounds'. -/
def requestRoundsUptoCard : Claim7 := { stood := { row := requestRoundsUptoRow, standIns := [], harness := (true, "204e7c626f155e357a5c56cbc354fa93c3af2ca538ee031043bdcb5853534b4a"), looks := true }, kinds := [], alts := [], laidByText := true, laidKinds := [.data, .data, .data, .data, .sentinel, .sentinel, .data, .pinned], laidTests := true, laidLooks := .later }
def RequestRoundsUptoCardSaid : Prop := Claim7.holds Tryz.pinned (.plain (OpenSpec.upto requestRoundsSpec)) requestRoundsUptoCard

/-- THE SECOND FORM's CARD OF 'asoflaw24.RequestJunk'. -/
def requestJunkUptoCard : Claim7 := { stood := { row := requestJunkUptoRow, standIns := [], harness := (true, "204e7c626f155e357a5c56cbc354fa93c3af2ca538ee031043bdcb5853534b4a"), looks := true }, kinds := [], alts := [], laidByText := true, laidKinds := [.data, .data, .data, .data, .sentinel, .sentinel, .data, .pinned], laidTests := true, laidLooks := .later }
def RequestJunkUptoCardSaid : Prop := Claim7.holds Tryz.pinned (.plain (OpenSpec.upto requestJunkSpec)) requestJunkUptoCard
end Rows
end Go.Proofs.YtfcdefnkhkijaaaGreatDoor
