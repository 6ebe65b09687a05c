/-
  DERIVED. GIVEN WITH THE SEED: THE CARDS: each row of YtdgaflcnigljlaaGreatDoorRows.lean that lists a variable, with what it lists TIED to the program's text (the seventh form; the later family's looks); each row that meets fmt, with fmt's text TOLD by the authors' own Lean function (tested against real Go, not proved from fmt's source: count such statements apart). THE CARD IS WHAT COUNTS. Prove the row's statement (the work); the ties are given (YtdgaflcnigljlaaGreatDoorTie.lean); close each card by the builder's one call (the guide's Derived/Test/ToyasCard.lean, 'card_holds'). Laid BY PROGRAM, IN A SANDBOX (cutbox-door.mjs). By AI agents, Wed Nov 11 2026. No macro, syntax, notation, axiom, sorry.
-/
import Derived.Test.YtdgaflcnigljlaaGreatDoorRows
import GoSem.ClaimSeven
namespace Go.Proofs.YtdgaflcnigljlaaGreatDoor
namespace Rows

/-- THE TIED CARD OF 'computustop.WholeTransfers'. -/
def wholeTransfersCard : Claim7 := { stood := { row := wholeTransfersRow, standIns := [], harness := (true, "933df98b069c93301c650ed4c3e43948fa6c85171d156fed1f8d679ab3506674"), looks := true }, kinds := [], alts := [], laidByText := true, laidKinds := [.data, .data, .data, .data, .data, .widerDeep, .data, .widerDeep, .widerDeep], laidTests := true, laidLooks := .later }
def WholeTransfersCardSaid : Prop := Claim7.holds Tryz.pinned (.plain (OpenSpec.ofChange wholeTransfersSpec)) wholeTransfersCard

/-- THE TIED CARD OF 'computustop.WholeAlike'. -/
def wholeAlikeCard : Claim7 := { stood := { row := wholeAlikeRow, standIns := [], harness := (true, "933df98b069c93301c650ed4c3e43948fa6c85171d156fed1f8d679ab3506674"), looks := true }, kinds := [], alts := [], laidByText := true, laidKinds := [.data, .data, .data, .data, .data, .widerDeep, .data, .widerDeep, .widerDeep], laidTests := true, laidLooks := .later }
def WholeAlikeCardSaid : Prop := Claim7.holds Tryz.pinned (.plain (OpenSpec.ofChange wholeAlikeSpec)) wholeAlikeCard

/-- THE TIED CARD OF 'computustop.WholeOmitted'. -/
def wholeOmittedCard : Claim7 := { stood := { row := wholeOmittedRow, standIns := [], harness := (true, "933df98b069c93301c650ed4c3e43948fa6c85171d156fed1f8d679ab3506674"), looks := true }, kinds := [], alts := [], laidByText := true, laidKinds := [.data, .data, .data, .data, .data, .widerDeep, .data, .widerDeep, .widerDeep], laidTests := true, laidLooks := .later }
def WholeOmittedCardSaid : Prop := Claim7.holds Tryz.pinned (.plain (OpenSpec.ofChange wholeOmittedSpec)) wholeOmittedCard

/-- THE TIED CARD OF 'computustop.WholeSeasons'. -/
def wholeSeasonsCard : Claim7 := { stood := { row := wholeSeasonsRow, standIns := [], harness := (true, "933df98b069c93301c650ed4c3e43948fa6c85171d156fed1f8d679ab3506674"), looks := true }, kinds := [], alts := [], laidByText := true, laidKinds := [.data, .data, .data, .data, .data, .widerDeep, .data, .widerDeep, .widerDeep], laidTests := true, laidLooks := .later }
def WholeSeasonsCardSaid : Prop := Claim7.holds Tryz.pinned (.plain (OpenSpec.ofChange wholeSeasonsSpec)) wholeSeasonsCard

/-- THE SECOND FORM's CARD OF 'computustop.WholeTransfers'. -/
def wholeTransfersUptoCard : Claim7 := { stood := { row := wholeTransfersUptoRow, standIns := [], harness := (true, "933df98b069c93301c650ed4c3e43948fa6c85171d156fed1f8d679ab3506674"), looks := true }, kinds := [], alts := [], laidByText := true, laidKinds := [.data, .data, .data, .data, .data, .widerDeep, .data, .widerDeep, .widerDeep], laidTests := true, laidLooks := .later }
def WholeTransfersUptoCardSaid : Prop := Claim7.holds Tryz.pinned (.plain (OpenSpec.upto wholeTransfersSpec)) wholeTransfersUptoCard

/-- THE SECOND FORM's CARD OF 'computustop.WholeAlike'. -/
def wholeAlikeUptoCard : Claim7 := { stood := { row := wholeAlikeUptoRow, standIns := [], harness := (true, "933df98b069c93301c650ed4c3e43948fa6c85171d156fed1f8d679ab3506674"), looks := true }, kinds := [], alts := [], laidByText := true, laidKinds := [.data, .data, .data, .data, .data, .widerDeep, .data, .widerDeep, .widerDeep], laidTests := true, laidLooks := .later }
def WholeAlikeUptoCardSaid : Prop := Claim7.holds Tryz.pinned (.plain (OpenSpec.upto wholeAlikeSpec)) wholeAlikeUptoCard

/-- THE SECOND FORM's CARD OF 'computustop.WholeOmitted'. -/
def wholeOmittedUptoCard : Claim7 := { stood := { row := wholeOmittedUptoRow, standIns := [], harness := (true, "933df98b069c93301c650ed4c3e43948fa6c85171d156fed1f8d679ab3506674"), looks := true }, kinds := [], alts := [], laidByText := true, laidKinds := [.data, .data, .data, .data, .data, .widerDeep, .data, .widerDeep, .widerDeep], laidTests := true, laidLooks := .later }
def WholeOmittedUptoCardSaid : Prop := Claim7.holds Tryz.pinned (.plain (OpenSpec.upto wholeOmittedSpec)) wholeOmittedUptoCard

/-- THE SECOND FORM's CARD OF 'computustop.WholeSeasons'. -/
def wholeSeasonsUptoCard : Claim7 := { stood := { row := wholeSeasonsUptoRow, standIns := [], harness := (true, "933df98b069c93301c650ed4c3e43948fa6c85171d156fed1f8d679ab3506674"), looks := true }, kinds := [], alts := [], laidByText := true, laidKinds := [.data, .data, .data, .data, .data, .widerDeep, .data, .widerDeep, .widerDeep], laidTests := true, laidLooks := .later }
def WholeSeasonsUptoCardSaid : Prop := Claim7.holds Tryz.pinned (.plain (OpenSpec.upto wholeSeasonsSpec)) wholeSeasonsUptoCard
end Rows
end Go.Proofs.YtdgaflcnigljlaaGreatDoor
