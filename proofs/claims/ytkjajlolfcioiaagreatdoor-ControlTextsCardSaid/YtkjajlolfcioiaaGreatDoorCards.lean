/-
  DERIVED. GIVEN WITH THE SEED: THE CARDS: each row of YtkjajlolfcioiaaGreatDoorRows.lean that lists a variable, with what it lists TIED to the program's text (the seventh form; the later family's looks); each row that meets fmt, with fmt's text TOLD by the authors' own Lean function (tested against real Go, not proved from fmt's source: count such statements apart). THE CARD IS WHAT COUNTS. Prove the row's statement (the work); the ties are given (YtkjajlolfcioiaaGreatDoorTie.lean); close each card by the builder's one call (the guide's Derived/Test/ToyasCard.lean, 'card_holds'). Laid BY PROGRAM, IN A SANDBOX (cutbox-door.mjs). By AI agents, Wed Nov 11 2026. No macro, syntax, notation, axiom, sorry.
-/
import Derived.Test.YtkjajlolfcioiaaGreatDoorRows
import GoSem.ClaimSeven
namespace Go.Proofs.YtkjajlolfcioiaaGreatDoor
namespace Rows

/-- THE TIED CARD OF 'watershedlaw06.GraphOrders'. -/
def graphOrdersCard : Claim7 := { stood := { row := graphOrdersRow, standIns := [], harness := (true, "da6baecc342bb206b33c00fb31546c72ced818e6433a420da0b6cd3e76c0421f"), looks := true }, kinds := [], alts := [], laidByText := true, laidKinds := [.data, .data, .data, .data, .sentinel, .sentinel, .pinned], laidTests := true, laidLooks := .later }
def GraphOrdersCardSaid : Prop := Claim7.holds Tryz.pinned (.plain (OpenSpec.ofChange graphOrdersSpec)) graphOrdersCard

/-- THE TIED CARD OF 'watershedlaw06.GraphPairs'. -/
def graphPairsCard : Claim7 := { stood := { row := graphPairsRow, standIns := [], harness := (true, "da6baecc342bb206b33c00fb31546c72ced818e6433a420da0b6cd3e76c0421f"), looks := true }, kinds := [], alts := [], laidByText := true, laidKinds := [.data, .data, .data, .data, .sentinel, .sentinel, .pinned], laidTests := true, laidLooks := .later }
def GraphPairsCardSaid : Prop := Claim7.holds Tryz.pinned (.plain (OpenSpec.ofChange graphPairsSpec)) graphPairsCard

/-- THE TIED CARD OF 'watershedlaw06.GraphReaches'. -/
def graphReachesCard : Claim7 := { stood := { row := graphReachesRow, standIns := [], harness := (true, "da6baecc342bb206b33c00fb31546c72ced818e6433a420da0b6cd3e76c0421f"), looks := true }, kinds := [], alts := [], laidByText := true, laidKinds := [.data, .data, .data, .data, .sentinel, .sentinel, .pinned], laidTests := true, laidLooks := .later }
def GraphReachesCardSaid : Prop := Claim7.holds Tryz.pinned (.plain (OpenSpec.ofChange graphReachesSpec)) graphReachesCard

/-- THE TIED CARD OF 'watershedlaw21.ControlRises'. -/
def controlRisesCard : Claim7 := { stood := { row := controlRisesRow, standIns := [], harness := (true, "da6baecc342bb206b33c00fb31546c72ced818e6433a420da0b6cd3e76c0421f"), looks := true }, kinds := [], alts := [], laidByText := true, laidKinds := [.data, .data, .data, .data, .sentinel, .sentinel, .pinned], laidTests := true, laidLooks := .later }
def ControlRisesCardSaid : Prop := Claim7.holds Tryz.pinned (.plain (OpenSpec.ofChange controlRisesSpec)) controlRisesCard

/-- THE TIED CARD OF 'watershedlaw21.ControlApart'. -/
def controlApartCard : Claim7 := { stood := { row := controlApartRow, standIns := [], harness := (true, "da6baecc342bb206b33c00fb31546c72ced818e6433a420da0b6cd3e76c0421f"), looks := true }, kinds := [], alts := [], laidByText := true, laidKinds := [.data, .data, .data, .data, .sentinel, .sentinel, .pinned], laidTests := true, laidLooks := .later }
def ControlApartCardSaid : Prop := Claim7.holds Tryz.pinned (.plain (OpenSpec.ofChange controlApartSpec)) controlApartCard

/-- THE TIED CARD OF 'watershedlaw21.ControlAcks'. -/
def controlAcksCard : Claim7 := { stood := { row := controlAcksRow, standIns := [], harness := (true, "da6baecc342bb206b33c00fb31546c72ced818e6433a420da0b6cd3e76c0421f"), looks := true }, kinds := [], alts := [], laidByText := true, laidKinds := [.data, .data, .data, .data, .sentinel, .sentinel, .pinned], laidTests := true, laidLooks := .later }
def ControlAcksCardSaid : Prop := Claim7.holds Tryz.pinned (.plain (OpenSpec.ofChange controlAcksSpec)) controlAcksCard

/-- THE TIED CARD OF 'watershedlaw21.ControlSpreads'. -/
def controlSpreadsCard : Claim7 := { stood := { row := controlSpreadsRow, standIns := [], harness := (true, "da6baecc342bb206b33c00fb31546c72ced818e6433a420da0b6cd3e76c0421f"), looks := true }, kinds := [], alts := [], laidByText := true, laidKinds := [.data, .data, .data, .data, .sentinel, .sentinel, .pinned], laidTests := true, laidLooks := .later }
def ControlSpreadsCardSaid : Prop := Claim7.holds Tryz.pinned (.plain (OpenSpec.ofChange controlSpreadsSpec)) controlSpreadsCard

/-- THE TIED CARD OF 'watershedlaw21.ControlStarts'. -/
def controlStartsCard : Claim7 := { stood := { row := controlStartsRow, standIns := [], harness := (true, "da6baecc342bb206b33c00fb31546c72ced818e6433a420da0b6cd3e76c0421f"), looks := true }, kinds := [], alts := [], laidByText := true, laidKinds := [.data, .data, .data, .data, .sentinel, .sentinel, .pinned], laidTests := true, laidLooks := .later }
def ControlStartsCardSaid : Prop := Claim7.holds Tryz.pinned (.plain (OpenSpec.ofChange controlStartsSpec)) controlStartsCard

/-- THE TIED CARD OF 'watershedlaw21.ControlDoes'. -/
def controlDoesCard : Claim7 := { stood := { row := controlDoesRow, standIns := [], harness := (true, "da6baecc342bb206b33c00fb31546c72ced818e6433a420da0b6cd3e76c0421f"), looks := true }, kinds := [], alts := [], laidByText := true, laidKinds := [.data, .data, .data, .data, .sentinel, .sentinel, .pinned], laidTests := true, laidLooks := .later }
def ControlDoesCardSaid : Prop := Claim7.holds Tryz.pinned (.plain (OpenSpec.ofChange controlDoesSpec)) controlDoesCard

/-- THE TIED CARD OF 'watershedlaw21.ControlNil'. -/
def controlNilCard : Claim7 := { stood := { row := controlNilRow, standIns := [], harness := (true, "da6baecc342bb206b33c00fb31546c72ced818e6433a420da0b6cd3e76c0421f"), looks := true }, kinds := [], alts := [], laidByText := true, laidKinds := [.data, .data, .data, .data, .sentinel, .sentinel, .pinned], laidTests := true, laidLooks := .later }
def ControlNilCardSaid : Prop := Claim7.holds Tryz.pinned (.plain (OpenSpec.ofChange controlNilSpec)) controlNilCard

/-- THE TIED CARD OF 'watershedlaw21.ControlTexts'. -/
def controlTextsCard : Claim7 := { stood := { row := controlTextsRow, standIns := [], harness := (true, "da6baecc342bb206b33c00fb31546c72ced818e6433a420da0b6cd3e76c0421f"), looks := true }, kinds := [], alts := [], laidByText := true, laidKinds := [.data, .data, .data, .data, .sentinel, .sentinel, .pinned], laidTests := true, laidLooks := .later }
def ControlTextsCardSaid : Prop := Claim7.holds Tryz.pinned (.plain (OpenSpec.ofChange controlTextsSpec)) controlTextsCard

/-- THE TIED CARD OF 'watershedlaw21.ControlReads'. -/
def controlReadsCard : Claim7 := { stood := { row := controlReadsRow, standIns := [], harness := (true, "da6baecc342bb206b33c00fb31546c72ced818e6433a420da0b6cd3e76c0421f"), looks := true }, kinds := [], alts := [], laidByText := true, laidKinds := [.data, .data, .data, .data, .sentinel, .sentinel, .pinned], laidTests := true, laidLooks := .later }
def ControlReadsCardSaid : Prop := Claim7.holds Tryz.pinned (.plain (OpenSpec.ofChange controlReadsSpec)) controlReadsCard

/-- THE SECOND FORM's CARD OF 'watershedlaw06.GraphOrders'. -/
def graphOrdersUptoCard : Claim7 := { stood := { row := graphOrdersUptoRow, standIns := [], harness := (true, "da6baecc342bb206b33c00fb31546c72ced818e6433a420da0b6cd3e76c0421f"), looks := true }, kinds := [], alts := [], laidByText := true, laidKinds := [.data, .data, .data, .data, .sentinel, .sentinel, .pinned], laidTests := true, laidLooks := .later }
def GraphOrdersUptoCardSaid : Prop := Claim7.holds Tryz.pinned (.plain (OpenSpec.upto graphOrdersSpec)) graphOrdersUptoCard

/-- THE SECOND FORM's CARD OF 'watershedlaw06.GraphPairs'. -/
def graphPairsUptoCard : Claim7 := { stood := { row := graphPairsUptoRow, standIns := [], harness := (true, "da6baecc342bb206b33c00fb31546c72ced818e6433a420da0b6cd3e76c0421f"), looks := true }, kinds := [], alts := [], laidByText := true, laidKinds := [.data, .data, .data, .data, .sentinel, .sentinel, .pinned], laidTests := true, laidLooks := .later }
def GraphPairsUptoCardSaid : Prop := Claim7.holds Tryz.pinned (.plain (OpenSpec.upto graphPairsSpec)) graphPairsUptoCard

/-- THE SECOND FORM's CARD OF 'watershedlaw06.GraphReaches'. -/
def graphReachesUptoCard : Claim7 := { stood := { row := graphReachesUptoRow, standIns := [], harness := (true, "da6baecc342bb206b33c00fb31546c72ced818e6433a420da0b6cd3e76c0421f"), looks := true }, kinds := [], alts := [], laidByText := true, laidKinds := [.data, .data, .data, .data, .sentinel, .sentinel, .pinned], laidTests := true, laidLooks := .later }
def GraphReachesUptoCardSaid : Prop := Claim7.holds Tryz.pinned (.plain (OpenSpec.upto graphReachesSpec)) graphReachesUptoCard

/-- THE SECOND FORM's CARD OF 'watershedlaw21.ControlRises'. -/
def controlRisesUptoCard : Claim7 := { stood := { row := controlRisesUptoRow, standIns := [], harness := (true, "da6baecc342bb206b33c00fb31546c72ced818e6433a420da0b6cd3e76c0421f"), looks := true }, kinds := [], alts := [], laidByText := true, laidKinds := [.data, .data, .data, .data, .sentinel, .sentinel, .pinned], laidTests := true, laidLooks := .later }
def ControlRisesUptoCardSaid : Prop := Claim7.holds Tryz.pinned (.plain (OpenSpec.upto controlRisesSpec)) controlRisesUptoCard

/-- THE SECOND FORM's CARD OF 'watershedlaw21.ControlApart'. -/
def controlApartUptoCard : Claim7 := { stood := { row := controlApartUptoRow, standIns := [], harness := (true, "da6baecc342bb206b33c00fb31546c72ced818e6433a420da0b6cd3e76c0421f"), looks := true }, kinds := [], alts := [], laidByText := true, laidKinds := [.data, .data, .data, .data, .sentinel, .sentinel, .pinned], laidTests := true, laidLooks := .later }
def ControlApartUptoCardSaid : Prop := Claim7.holds Tryz.pinned (.plain (OpenSpec.upto controlApartSpec)) controlApartUptoCard

/-- THE SECOND FORM's CARD OF 'watershedlaw21.ControlAcks'. -/
def controlAcksUptoCard : Claim7 := { stood := { row := controlAcksUptoRow, standIns := [], harness := (true, "da6baecc342bb206b33c00fb31546c72ced818e6433a420da0b6cd3e76c0421f"), looks := true }, kinds := [], alts := [], laidByText := true, laidKinds := [.data, .data, .data, .data, .sentinel, .sentinel, .pinned], laidTests := true, laidLooks := .later }
def ControlAcksUptoCardSaid : Prop := Claim7.holds Tryz.pinned (.plain (OpenSpec.upto controlAcksSpec)) controlAcksUptoCard

/-- THE SECOND FORM's CARD OF 'watershedlaw21.ControlSpreads'. -/
def controlSpreadsUptoCard : Claim7 := { stood := { row := controlSpreadsUptoRow, standIns := [], harness := (true, "da6baecc342bb206b33c00fb31546c72ced818e6433a420da0b6cd3e76c0421f"), looks := true }, kinds := [], alts := [], laidByText := true, laidKinds := [.data, .data, .data, .data, .sentinel, .sentinel, .pinned], laidTests := true, laidLooks := .later }
def ControlSpreadsUptoCardSaid : Prop := Claim7.holds Tryz.pinned (.plain (OpenSpec.upto controlSpreadsSpec)) controlSpreadsUptoCard

/-- THE SECOND FORM's CARD OF 'watershedlaw21.ControlStarts'. -/
def controlStartsUptoCard : Claim7 := { stood := { row := controlStartsUptoRow, standIns := [], harness := (true, "da6baecc342bb206b33c00fb31546c72ced818e6433a420da0b6cd3e76c0421f"), looks := true }, kinds := [], alts := [], laidByText := true, laidKinds := [.data, .data, .data, .data, .sentinel, .sentinel, .pinned], laidTests := true, laidLooks := .later }
def ControlStartsUptoCardSaid : Prop := Claim7.holds Tryz.pinned (.plain (OpenSpec.upto controlStartsSpec)) controlStartsUptoCard

/-- THE SECOND FORM's CARD OF 'watershedlaw21.ControlDoes'. -/
def controlDoesUptoCard : Claim7 := { stood := { row := controlDoesUptoRow, standIns := [], harness := (true, "da6baecc342bb206b33c00fb31546c72ced818e6433a420da0b6cd3e76c0421f"), looks := true }, kinds := [], alts := [], laidByText := true, laidKinds := [.data, .data, .data, .data, .sentinel, .sentinel, .pinned], laidTests := true, laidLooks := .later }
def ControlDoesUptoCardSaid : Prop := Claim7.holds Tryz.pinned (.plain (OpenSpec.upto controlDoesSpec)) controlDoesUptoCard

/-- THE SECOND FORM's CARD OF 'watershedlaw21.ControlNil'. -/
def controlNilUptoCard : Claim7 := { stood := { row := controlNilUptoRow, standIns := [], harness := (true, "da6baecc342bb206b33c00fb31546c72ced818e6433a420da0b6cd3e76c0421f"), looks := true }, kinds := [], alts := [], laidByText := true, laidKinds := [.data, .data, .data, .data, .sentinel, .sentinel, .pinned], laidTests := true, laidLooks := .later }
def ControlNilUptoCardSaid : Prop := Claim7.holds Tryz.pinned (.plain (OpenSpec.upto controlNilSpec)) controlNilUptoCard

/-- THE SECOND FORM's CARD OF 'watershedlaw21.ControlTexts'. -/
def controlTextsUptoCard : Claim7 := { stood := { row := controlTextsUptoRow, standIns := [], harness := (true, "da6baecc342bb206b33c00fb31546c72ced818e6433a420da0b6cd3e76c0421f"), looks := true }, kinds := [], alts := [], laidByText := true, laidKinds := [.data, .data, .data, .data, .sentinel, .sentinel, .pinned], laidTests := true, laidLooks := .later }
def ControlTextsUptoCardSaid : Prop := Claim7.holds Tryz.pinned (.plain (OpenSpec.upto controlTextsSpec)) controlTextsUptoCard

/-- THE SECOND FORM's CARD OF 'watershedlaw21.ControlReads'. -/
def controlReadsUptoCard : Claim7 := { stood := { row := controlReadsUptoRow, standIns := [], harness := (true, "da6baecc342bb206b33c00fb31546c72ced818e6433a420da0b6cd3e76c0421f"), looks := true }, kinds := [], alts := [], laidByText := true, laidKinds := [.data, .data, .data, .data, .sentinel, .sentinel, .pinned], laidTests := true, laidLooks := .later }
def ControlReadsUptoCardSaid : Prop := Claim7.holds Tryz.pinned (.plain (OpenSpec.upto controlReadsSpec)) controlReadsUptoCard
end Rows
end Go.Proofs.YtkjajlolfcioiaaGreatDoor
