/-
  DERIVED. GIVEN WITH THE SEED: THE CARDS: each row of YtpfdmcpnbkohdaaGreatDoorRows.lean that lists a variable, with what it lists TIED to the program's text (the seventh form; the later family's looks); each row that meets fmt, with fmt's text TOLD by the authors' own Lean function (tested against real Go, not proved from fmt's source: count such statements apart). THE CARD IS WHAT COUNTS. Prove the row's statement (the work); the ties are given (YtpfdmcpnbkohdaaGreatDoorTie.lean); close each card by the builder's one call (the guide's Derived/Test/ToyasCard.lean, 'card_holds'). Laid BY PROGRAM, IN A SANDBOX (cutbox-door.mjs). By AI agents, Wed Nov 11 2026. No macro, syntax, notation, axiom, sorry.
-/
import Derived.Test.YtpfdmcpnbkohdaaGreatDoorRows
import GoSem.ClaimSeven
namespace Go.Proofs.YtpfdmcpnbkohdaaGreatDoor
namespace Rows

/-- THE TIED CARD OF 'asoflaw07.UnitsMatchesCheck'. -/
def unitsMatchesCheckCard : Claim7 := { stood := { row := unitsMatchesCheckRow, standIns := [], harness := (true, "5e08810972fe8c14f18402ba844d37d489cd4e0ad24cf03367c7fcf893c55fa4"), looks := true }, kinds := [], alts := [], laidByText := true, laidKinds := [.data, .data, .data, .data, .sentinel, .sentinel, .pinned], laidTests := true, laidLooks := .later }
def UnitsMatchesCheckCardSaid : Prop := Claim7.holds Tryz.pinned (.plain (OpenSpec.ofChange unitsMatchesCheckSpec)) unitsMatchesCheckCard

/-- THE TIED CARD OF 'asoflaw07.UnitsMatchesProducts'. -/
def unitsMatchesProductsCard : Claim7 := { stood := { row := unitsMatchesProductsRow, standIns := [], harness := (true, "5e08810972fe8c14f18402ba844d37d489cd4e0ad24cf03367c7fcf893c55fa4"), looks := true }, kinds := [], alts := [], laidByText := true, laidKinds := [.data, .data, .data, .data, .sentinel, .sentinel, .pinned], laidTests := true, laidLooks := .later }
def UnitsMatchesProductsCardSaid : Prop := Claim7.holds Tryz.pinned (.plain (OpenSpec.ofChange unitsMatchesProductsSpec)) unitsMatchesProductsCard

/-- THE TIED CARD OF 'asoflaw07.UnitsMatchesText'. -/
def unitsMatchesTextCard : Claim7 := { stood := { row := unitsMatchesTextRow, standIns := [], harness := (true, "5e08810972fe8c14f18402ba844d37d489cd4e0ad24cf03367c7fcf893c55fa4"), looks := true }, kinds := [], alts := [], laidByText := true, laidKinds := [.data, .data, .data, .data, .sentinel, .sentinel, .pinned], laidTests := true, laidLooks := .later }
def UnitsMatchesTextCardSaid : Prop := Claim7.holds Tryz.pinned (.plain (OpenSpec.ofChange unitsMatchesTextSpec)) unitsMatchesTextCard

/-- THE TIED CARD OF 'asoflaw07.UnitsGroup'. -/
def unitsGroupCard : Claim7 := { stood := { row := unitsGroupRow, standIns := [], harness := (true, "5e08810972fe8c14f18402ba844d37d489cd4e0ad24cf03367c7fcf893c55fa4"), looks := true }, kinds := [], alts := [], laidByText := true, laidKinds := [.data, .data, .data, .data, .sentinel, .sentinel, .pinned], laidTests := true, laidLooks := .later }
def UnitsGroupCardSaid : Prop := Claim7.holds Tryz.pinned (.plain (OpenSpec.ofChange unitsGroupSpec)) unitsGroupCard

/-- THE TIED CARD OF 'asoflaw07.UnitsTexts'. -/
def unitsTextsCard : Claim7 := { stood := { row := unitsTextsRow, standIns := [], harness := (true, "5e08810972fe8c14f18402ba844d37d489cd4e0ad24cf03367c7fcf893c55fa4"), looks := true }, kinds := [], alts := [], laidByText := true, laidKinds := [.data, .data, .data, .data, .sentinel, .sentinel, .pinned], laidTests := true, laidLooks := .later }
def UnitsTextsCardSaid : Prop := Claim7.holds Tryz.pinned (.plain (OpenSpec.ofChange unitsTextsSpec)) unitsTextsCard

/-- THE TIED CARD OF 'asoflaw07.UnitsPowers'. -/
def unitsPowersCard : Claim7 := { stood := { row := unitsPowersRow, standIns := [], harness := (true, "5e08810972fe8c14f18402ba844d37d489cd4e0ad24cf03367c7fcf893c55fa4"), looks := true }, kinds := [], alts := [], laidByText := true, laidKinds := [.data, .data, .data, .data, .sentinel, .sentinel, .pinned], laidTests := true, laidLooks := .later }
def UnitsPowersCardSaid : Prop := Claim7.holds Tryz.pinned (.plain (OpenSpec.ofChange unitsPowersSpec)) unitsPowersCard

/-- THE TIED CARD OF 'asoflaw07.UnitsExponents'. -/
def unitsExponentsCard : Claim7 := { stood := { row := unitsExponentsRow, standIns := [], harness := (true, "5e08810972fe8c14f18402ba844d37d489cd4e0ad24cf03367c7fcf893c55fa4"), looks := true }, kinds := [], alts := [], laidByText := true, laidKinds := [.data, .data, .data, .data, .sentinel, .sentinel, .pinned], laidTests := true, laidLooks := .later }
def UnitsExponentsCardSaid : Prop := Claim7.holds Tryz.pinned (.plain (OpenSpec.ofChange unitsExponentsSpec)) unitsExponentsCard

/-- THE SECOND FORM's CARD OF 'asoflaw07.UnitsMatchesCheck'. -/
def unitsMatchesCheckUptoCard : Claim7 := { stood := { row := unitsMatchesCheckUptoRow, standIns := [], harness := (true, "5e08810972fe8c14f18402ba844d37d489cd4e0ad24cf03367c7fcf893c55fa4"), looks := true }, kinds := [], alts := [], laidByText := true, laidKinds := [.data, .data, .data, .data, .sentinel, .sentinel, .pinned], laidTests := true, laidLooks := .later }
def UnitsMatchesCheckUptoCardSaid : Prop := Claim7.holds Tryz.pinned (.plain (OpenSpec.upto unitsMatchesCheckSpec)) unitsMatchesCheckUptoCard

/-- THE SECOND FORM's CARD OF 'asoflaw07.UnitsMatchesProducts'. -/
def unitsMatchesProductsUptoCard : Claim7 := { stood := { row := unitsMatchesProductsUptoRow, standIns := [], harness := (true, "5e08810972fe8c14f18402ba844d37d489cd4e0ad24cf03367c7fcf893c55fa4"), looks := true }, kinds := [], alts := [], laidByText := true, laidKinds := [.data, .data, .data, .data, .sentinel, .sentinel, .pinned], laidTests := true, laidLooks := .later }
def UnitsMatchesProductsUptoCardSaid : Prop := Claim7.holds Tryz.pinned (.plain (OpenSpec.upto unitsMatchesProductsSpec)) unitsMatchesProductsUptoCard

/-- THE SECOND FORM's CARD OF 'asoflaw07.UnitsMatchesText'. -/
def unitsMatchesTextUptoCard : Claim7 := { stood := { row := unitsMatchesTextUptoRow, standIns := [], harness := (true, "5e08810972fe8c14f18402ba844d37d489cd4e0ad24cf03367c7fcf893c55fa4"), looks := true }, kinds := [], alts := [], laidByText := true, laidKinds := [.data, .data, .data, .data, .sentinel, .sentinel, .pinned], laidTests := true, laidLooks := .later }
def UnitsMatchesTextUptoCardSaid : Prop := Claim7.holds Tryz.pinned (.plain (OpenSpec.upto unitsMatchesTextSpec)) unitsMatchesTextUptoCard

/-- THE SECOND FORM's CARD OF 'asoflaw07.UnitsGroup'. -/
def unitsGroupUptoCard : Claim7 := { stood := { row := unitsGroupUptoRow, standIns := [], harness := (true, "5e08810972fe8c14f18402ba844d37d489cd4e0ad24cf03367c7fcf893c55fa4"), looks := true }, kinds := [], alts := [], laidByText := true, laidKinds := [.data, .data, .data, .data, .sentinel, .sentinel, .pinned], laidTests := true, laidLooks := .later }
def UnitsGroupUptoCardSaid : Prop := Claim7.holds Tryz.pinned (.plain (OpenSpec.upto unitsGroupSpec)) unitsGroupUptoCard

/-- THE SECOND FORM's CARD OF 'asoflaw07.UnitsTexts'. -/
def unitsTextsUptoCard : Claim7 := { stood := { row := unitsTextsUptoRow, standIns := [], harness := (true, "5e08810972fe8c14f18402ba844d37d489cd4e0ad24cf03367c7fcf893c55fa4"), looks := true }, kinds := [], alts := [], laidByText := true, laidKinds := [.data, .data, .data, .data, .sentinel, .sentinel, .pinned], laidTests := true, laidLooks := .later }
def UnitsTextsUptoCardSaid : Prop := Claim7.holds Tryz.pinned (.plain (OpenSpec.upto unitsTextsSpec)) unitsTextsUptoCard

/-- THE SECOND FORM's CARD OF 'asoflaw07.UnitsPowers'. -/
def unitsPowersUptoCard : Claim7 := { stood := { row := unitsPowersUptoRow, standIns := [], harness := (true, "5e08810972fe8c14f18402ba844d37d489cd4e0ad24cf03367c7fcf893c55fa4"), looks := true }, kinds := [], alts := [], laidByText := true, laidKinds := [.data, .data, .data, .data, .sentinel, .sentinel, .pinned], laidTests := true, laidLooks := .later }
def UnitsPowersUptoCardSaid : Prop := Claim7.holds Tryz.pinned (.plain (OpenSpec.upto unitsPowersSpec)) unitsPowersUptoCard

/-- THE SECOND FORM's CARD OF 'asoflaw07.UnitsExponents'. -/
def unitsExponentsUptoCard : Claim7 := { stood := { row := unitsExponentsUptoRow, standIns := [], harness := (true, "5e08810972fe8c14f18402ba844d37d489cd4e0ad24cf03367c7fcf893c55fa4"), looks := true }, kinds := [], alts := [], laidByText := true, laidKinds := [.data, .data, .data, .data, .sentinel, .sentinel, .pinned], laidTests := true, laidLooks := .later }
def UnitsExponentsUptoCardSaid : Prop := Claim7.holds Tryz.pinned (.plain (OpenSpec.upto unitsExponentsSpec)) unitsExponentsUptoCard
end Rows
end Go.Proofs.YtpfdmcpnbkohdaaGreatDoor
