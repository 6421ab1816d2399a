/-
  DERIVED. GIVEN WITH THE SEED: THE CARDS: each row of YtdclkdcgcfkopaaGreatDoorRows.lean that lists a variable, with what it lists TIED to the program's text (the seventh form; the later family's looks); each row that meets fmt, with fmt's text TOLD by the authors' own Lean function (tested against real Go, not proved from fmt's source: count such statements apart). THE CARD IS WHAT COUNTS. Prove the row's statement (the work); the ties are given (YtdclkdcgcfkopaaGreatDoorTie.lean); close each card by the builder's one call (the guide's Derived/Test/ToyasCard.lean, 'card_holds'). Laid BY PROGRAM, IN A SANDBOX (cutbox-door.mjs). By AI agents, Wed Nov 11 2026. No macro, syntax, notation, axiom, sorry.
-/
import Derived.Test.YtdclkdcgcfkopaaGreatDoorRows
import GoSem.ClaimSeven
namespace Go.Proofs.YtdclkdcgcfkopaaGreatDoor
namespace Rows

/-- THE TIED CARD OF 'foghornlaw13.ConfigParses'. -/
def configParsesCard : Claim7 := { stood := { row := configParsesRow, standIns := [], harness := (true, "8f3aeab6a87673fb87f0cc98c4bd052b52a284d88414f5d2c71ba475e93445ae"), looks := true }, kinds := [], alts := [], laidByText := true, laidKinds := [.data, .data, .data, .data, .sentinel, .sentinel, .pinned], laidTests := true, laidLooks := .later }
def ConfigParsesCardSaid : Prop := Claim7.holds Tryz.pinned (.plain (OpenSpec.ofChange configParsesSpec)) configParsesCard

/-- THE TIED CARD OF 'foghornlaw24.BoundTells'. -/
def boundTellsCard : Claim7 := { stood := { row := boundTellsRow, standIns := [], harness := (true, "8f3aeab6a87673fb87f0cc98c4bd052b52a284d88414f5d2c71ba475e93445ae"), looks := true }, kinds := [], alts := [], laidByText := true, laidKinds := [.data, .data, .data, .data, .sentinel, .sentinel, .pinned], laidTests := true, laidLooks := .later }
def BoundTellsCardSaid : Prop := Claim7.holds Tryz.pinned (.plain (OpenSpec.ofChange boundTellsSpec)) boundTellsCard

/-- THE TIED CARD OF 'foghornlaw24.BoundRises'. -/
def boundRisesCard : Claim7 := { stood := { row := boundRisesRow, standIns := [], harness := (true, "8f3aeab6a87673fb87f0cc98c4bd052b52a284d88414f5d2c71ba475e93445ae"), looks := true }, kinds := [], alts := [], laidByText := true, laidKinds := [.data, .data, .data, .data, .sentinel, .sentinel, .pinned], laidTests := true, laidLooks := .later }
def BoundRisesCardSaid : Prop := Claim7.holds Tryz.pinned (.plain (OpenSpec.ofChange boundRisesSpec)) boundRisesCard

/-- THE TIED CARD OF 'foghornlaw13.ConfigPrints'. -/
def configPrintsCard : Claim7 := { stood := { row := configPrintsRow, standIns := [], harness := (true, "8f3aeab6a87673fb87f0cc98c4bd052b52a284d88414f5d2c71ba475e93445ae"), looks := true }, kinds := [], alts := [], laidByText := true, laidKinds := [.data, .data, .data, .data, .sentinel, .sentinel, .pinned], laidTests := true, laidLooks := .later }
def ConfigPrintsCardSaid : Prop := Claim7.holds Tryz.pinned (.plain (OpenSpec.ofChange configPrintsSpec)) configPrintsCard

/-- THE TIED CARD OF 'foghornlaw13.ConfigBack'. -/
def configBackCard : Claim7 := { stood := { row := configBackRow, standIns := [], harness := (true, "8f3aeab6a87673fb87f0cc98c4bd052b52a284d88414f5d2c71ba475e93445ae"), looks := true }, kinds := [], alts := [], laidByText := true, laidKinds := [.data, .data, .data, .data, .sentinel, .sentinel, .pinned], laidTests := true, laidLooks := .later }
def ConfigBackCardSaid : Prop := Claim7.holds Tryz.pinned (.plain (OpenSpec.ofChange configBackSpec)) configBackCard

/-- THE TIED CARD OF 'foghornlaw12.WireParses'. -/
def wireParsesCard : Claim7 := { stood := { row := wireParsesRow, standIns := [], harness := (true, "8f3aeab6a87673fb87f0cc98c4bd052b52a284d88414f5d2c71ba475e93445ae"), looks := true }, kinds := [], alts := [], laidByText := true, laidKinds := [.data, .data, .data, .data, .sentinel, .sentinel, .pinned], laidTests := true, laidLooks := .later }
def WireParsesCardSaid : Prop := Claim7.holds Tryz.pinned (.plain (OpenSpec.ofChange wireParsesSpec)) wireParsesCard

/-- THE TIED CARD OF 'foghornlaw12.WirePrints'. -/
def wirePrintsCard : Claim7 := { stood := { row := wirePrintsRow, standIns := [], harness := (true, "8f3aeab6a87673fb87f0cc98c4bd052b52a284d88414f5d2c71ba475e93445ae"), looks := true }, kinds := [], alts := [], laidByText := true, laidKinds := [.data, .data, .data, .data, .sentinel, .sentinel, .pinned], laidTests := true, laidLooks := .later }
def WirePrintsCardSaid : Prop := Claim7.holds Tryz.pinned (.plain (OpenSpec.ofChange wirePrintsSpec)) wirePrintsCard

/-- THE TIED CARD OF 'foghornlaw12.WireBack'. -/
def wireBackCard : Claim7 := { stood := { row := wireBackRow, standIns := [], harness := (true, "8f3aeab6a87673fb87f0cc98c4bd052b52a284d88414f5d2c71ba475e93445ae"), looks := true }, kinds := [], alts := [], laidByText := true, laidKinds := [.data, .data, .data, .data, .sentinel, .sentinel, .pinned], laidTests := true, laidLooks := .later }
def WireBackCardSaid : Prop := Claim7.holds Tryz.pinned (.plain (OpenSpec.ofChange wireBackSpec)) wireBackCard

/-- THE TIED CARD OF 'foghornlaw12.WireOrder'. -/
def wireOrderCard : Claim7 := { stood := { row := wireOrderRow, standIns := [], harness := (true, "8f3aeab6a87673fb87f0cc98c4bd052b52a284d88414f5d2c71ba475e93445ae"), looks := true }, kinds := [], alts := [], laidByText := true, laidKinds := [.data, .data, .data, .data, .sentinel, .sentinel, .pinned], laidTests := true, laidLooks := .later }
def WireOrderCardSaid : Prop := Claim7.holds Tryz.pinned (.plain (OpenSpec.ofChange wireOrderSpec)) wireOrderCard

/-- THE SECOND FORM's CARD OF 'foghornlaw13.ConfigParses'. -/
def configParsesUptoCard : Claim7 := { stood := { row := configParsesUptoRow, standIns := [], harness := (true, "8f3aeab6a87673fb87f0cc98c4bd052b52a284d88414f5d2c71ba475e93445ae"), looks := true }, kinds := [], alts := [], laidByText := true, laidKinds := [.data, .data, .data, .data, .sentinel, .sentinel, .pinned], laidTests := true, laidLooks := .later }
def ConfigParsesUptoCardSaid : Prop := Claim7.holds Tryz.pinned (.plain (OpenSpec.upto configParsesSpec)) configParsesUptoCard

/-- THE SECOND FORM's CARD OF 'foghornlaw24.BoundTells'. -/
def boundTellsUptoCard : Claim7 := { stood := { row := boundTellsUptoRow, standIns := [], harness := (true, "8f3aeab6a87673fb87f0cc98c4bd052b52a284d88414f5d2c71ba475e93445ae"), looks := true }, kinds := [], alts := [], laidByText := true, laidKinds := [.data, .data, .data, .data, .sentinel, .sentinel, .pinned], laidTests := true, laidLooks := .later }
def BoundTellsUptoCardSaid : Prop := Claim7.holds Tryz.pinned (.plain (OpenSpec.upto boundTellsSpec)) boundTellsUptoCard

/-- THE SECOND FORM's CARD OF 'foghornlaw24.BoundRises'. -/
def boundRisesUptoCard : Claim7 := { stood := { row := boundRisesUptoRow, standIns := [], harness := (true, "8f3aeab6a87673fb87f0cc98c4bd052b52a284d88414f5d2c71ba475e93445ae"), looks := true }, kinds := [], alts := [], laidByText := true, laidKinds := [.data, .data, .data, .data, .sentinel, .sentinel, .pinned], laidTests := true, laidLooks := .later }
def BoundRisesUptoCardSaid : Prop := Claim7.holds Tryz.pinned (.plain (OpenSpec.upto boundRisesSpec)) boundRisesUptoCard

/-- THE SECOND FORM's CARD OF 'foghornlaw13.ConfigPrints'. -/
def configPrintsUptoCard : Claim7 := { stood := { row := configPrintsUptoRow, standIns := [], harness := (true, "8f3aeab6a87673fb87f0cc98c4bd052b52a284d88414f5d2c71ba475e93445ae"), looks := true }, kinds := [], alts := [], laidByText := true, laidKinds := [.data, .data, .data, .data, .sentinel, .sentinel, .pinned], laidTests := true, laidLooks := .later }
def ConfigPrintsUptoCardSaid : Prop := Claim7.holds Tryz.pinned (.plain (OpenSpec.upto configPrintsSpec)) configPrintsUptoCard

/-- THE SECOND FORM's CARD OF 'foghornlaw13.ConfigBack'. -/
def configBackUptoCard : Claim7 := { stood := { row := configBackUptoRow, standIns := [], harness := (true, "8f3aeab6a87673fb87f0cc98c4bd052b52a284d88414f5d2c71ba475e93445ae"), looks := true }, kinds := [], alts := [], laidByText := true, laidKinds := [.data, .data, .data, .data, .sentinel, .sentinel, .pinned], laidTests := true, laidLooks := .later }
def ConfigBackUptoCardSaid : Prop := Claim7.holds Tryz.pinned (.plain (OpenSpec.upto configBackSpec)) configBackUptoCard

/-- THE SECOND FORM's CARD OF 'foghornlaw12.WireParses'. -/
def wireParsesUptoCard : Claim7 := { stood := { row := wireParsesUptoRow, standIns := [], harness := (true, "8f3aeab6a87673fb87f0cc98c4bd052b52a284d88414f5d2c71ba475e93445ae"), looks := true }, kinds := [], alts := [], laidByText := true, laidKinds := [.data, .data, .data, .data, .sentinel, .sentinel, .pinned], laidTests := true, laidLooks := .later }
def WireParsesUptoCardSaid : Prop := Claim7.holds Tryz.pinned (.plain (OpenSpec.upto wireParsesSpec)) wireParsesUptoCard

/-- THE SECOND FORM's CARD OF 'foghornlaw12.WirePrints'. -/
def wirePrintsUptoCard : Claim7 := { stood := { row := wirePrintsUptoRow, standIns := [], harness := (true, "8f3aeab6a87673fb87f0cc98c4bd052b52a284d88414f5d2c71ba475e93445ae"), looks := true }, kinds := [], alts := [], laidByText := true, laidKinds := [.data, .data, .data, .data, .sentinel, .sentinel, .pinned], laidTests := true, laidLooks := .later }
def WirePrintsUptoCardSaid : Prop := Claim7.holds Tryz.pinned (.plain (OpenSpec.upto wirePrintsSpec)) wirePrintsUptoCard

/-- THE SECOND FORM's CARD OF 'foghornlaw12.WireBack'. -/
def wireBackUptoCard : Claim7 := { stood := { row := wireBackUptoRow, standIns := [], harness := (true, "8f3aeab6a87673fb87f0cc98c4bd052b52a284d88414f5d2c71ba475e93445ae"), looks := true }, kinds := [], alts := [], laidByText := true, laidKinds := [.data, .data, .data, .data, .sentinel, .sentinel, .pinned], laidTests := true, laidLooks := .later }
def WireBackUptoCardSaid : Prop := Claim7.holds Tryz.pinned (.plain (OpenSpec.upto wireBackSpec)) wireBackUptoCard

/-- THE SECOND FORM's CARD OF 'foghornlaw12.WireOrder'. -/
def wireOrderUptoCard : Claim7 := { stood := { row := wireOrderUptoRow, standIns := [], harness := (true, "8f3aeab6a87673fb87f0cc98c4bd052b52a284d88414f5d2c71ba475e93445ae"), looks := true }, kinds := [], alts := [], laidByText := true, laidKinds := [.data, .data, .data, .data, .sentinel, .sentinel, .pinned], laidTests := true, laidLooks := .later }
def WireOrderUptoCardSaid : Prop := Claim7.holds Tryz.pinned (.plain (OpenSpec.upto wireOrderSpec)) wireOrderUptoCard
end Rows
end Go.Proofs.YtdclkdcgcfkopaaGreatDoor
