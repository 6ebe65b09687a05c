/-
  DERIVED. GIVEN WITH THE SEED: THE CARDS: each row of YtmdeeofeikdeeaaDoorRows.lean that lists a variable, with what it lists TIED to the program's text (the seventh form; the later family's looks); each row that meets fmt, with fmt's text TOLD by the authors' own Lean function (tested against real Go, not proved from fmt's source: count such statements apart). THE CARD IS WHAT COUNTS. Prove the row's statement (the work); the ties are given (YtmdeeofeikdeeaaDoorTie.lean); close each card by the builder's one call (the guide's Derived/Test/ToyasCard.lean, 'card_holds'). Laid BY PROGRAM, IN A SANDBOX (cutbox-door.mjs). By AI agents, Wed Nov 11 2026. No macro, syntax, notation, axiom, sorry.
-/
import Derived.Test.YtmdeeofeikdeeaaDoorRows
import GoSem.ClaimSeven
namespace Go.Proofs.YtmdeeofeikdeeaaDoor
namespace Rows

/-- THE TIED CARD OF 'computuslaw02.JulianMatchesReference'. -/
def julianMatchesReferenceCard : Claim7 := { stood := { row := julianMatchesReferenceRow, standIns := [], harness := (true, "a696ea8fd7663b45987a608de6390415f82d50fa5bc0821e7abb3e9d0bbc09ed"), looks := false }, kinds := [], alts := [], laidByText := true, laidKinds := [.data], laidTests := true, laidLooks := .later }
def JulianMatchesReferenceCardSaid : Prop := Claim7.holds Tryd.pinned (.plain (OpenSpec.ofChange julianMatchesReferenceSpec)) julianMatchesReferenceCard

/-- THE TIED CARD OF 'computuslaw02.JulianRoundTrip'. -/
def julianRoundTripCard : Claim7 := { stood := { row := julianRoundTripRow, standIns := [], harness := (true, "a696ea8fd7663b45987a608de6390415f82d50fa5bc0821e7abb3e9d0bbc09ed"), looks := false }, kinds := [], alts := [], laidByText := true, laidKinds := [.data], laidTests := true, laidLooks := .later }
def JulianRoundTripCardSaid : Prop := Claim7.holds Tryd.pinned (.plain (OpenSpec.ofChange julianRoundTripSpec)) julianRoundTripCard

/-- THE TIED CARD OF 'computuslaw02.JulianSuccessor'. -/
def julianSuccessorCard : Claim7 := { stood := { row := julianSuccessorRow, standIns := [], harness := (true, "a696ea8fd7663b45987a608de6390415f82d50fa5bc0821e7abb3e9d0bbc09ed"), looks := false }, kinds := [], alts := [], laidByText := true, laidKinds := [.data], laidTests := true, laidLooks := .later }
def JulianSuccessorCardSaid : Prop := Claim7.holds Tryd.pinned (.plain (OpenSpec.ofChange julianSuccessorSpec)) julianSuccessorCard

/-- THE TIED CARD OF 'computuslaw02.JulianOrder'. -/
def julianOrderCard : Claim7 := { stood := { row := julianOrderRow, standIns := [], harness := (true, "a696ea8fd7663b45987a608de6390415f82d50fa5bc0821e7abb3e9d0bbc09ed"), looks := false }, kinds := [], alts := [], laidByText := true, laidKinds := [.data], laidTests := true, laidLooks := .later }
def JulianOrderCardSaid : Prop := Claim7.holds Tryd.pinned (.plain (OpenSpec.ofChange julianOrderSpec)) julianOrderCard

/-- THE TIED CARD OF 'computuslaw02.JulianYears'. -/
def julianYearsCard : Claim7 := { stood := { row := julianYearsRow, standIns := [], harness := (true, "a696ea8fd7663b45987a608de6390415f82d50fa5bc0821e7abb3e9d0bbc09ed"), looks := false }, kinds := [], alts := [], laidByText := true, laidKinds := [.data], laidTests := true, laidLooks := .later }
def JulianYearsCardSaid : Prop := Claim7.holds Tryd.pinned (.plain (OpenSpec.ofChange julianYearsSpec)) julianYearsCard

/-- THE TIED CARD OF 'computuslaw02.JulianMonths'. -/
def julianMonthsCard : Claim7 := { stood := { row := julianMonthsRow, standIns := [], harness := (true, "a696ea8fd7663b45987a608de6390415f82d50fa5bc0821e7abb3e9d0bbc09ed"), looks := false }, kinds := [], alts := [], laidByText := true, laidKinds := [.data], laidTests := true, laidLooks := .later }
def JulianMonthsCardSaid : Prop := Claim7.holds Tryd.pinned (.plain (OpenSpec.ofChange julianMonthsSpec)) julianMonthsCard

/-- THE SECOND FORM's CARD OF 'computuslaw02.JulianMatchesReference'. -/
def julianMatchesReferenceUptoCard : Claim7 := { stood := { row := julianMatchesReferenceUptoRow, standIns := [], harness := (true, "a696ea8fd7663b45987a608de6390415f82d50fa5bc0821e7abb3e9d0bbc09ed"), looks := false }, kinds := [], alts := [], laidByText := true, laidKinds := [.data], laidTests := true, laidLooks := .later }
def JulianMatchesReferenceUptoCardSaid : Prop := Claim7.holds Tryd.pinned (.plain (OpenSpec.upto julianMatchesReferenceSpec)) julianMatchesReferenceUptoCard

/-- THE SECOND FORM's CARD OF 'computuslaw02.JulianRoundTrip'. -/
def julianRoundTripUptoCard : Claim7 := { stood := { row := julianRoundTripUptoRow, standIns := [], harness := (true, "a696ea8fd7663b45987a608de6390415f82d50fa5bc0821e7abb3e9d0bbc09ed"), looks := false }, kinds := [], alts := [], laidByText := true, laidKinds := [.data], laidTests := true, laidLooks := .later }
def JulianRoundTripUptoCardSaid : Prop := Claim7.holds Tryd.pinned (.plain (OpenSpec.upto julianRoundTripSpec)) julianRoundTripUptoCard

/-- THE SECOND FORM's CARD OF 'computuslaw02.JulianSuccessor'. -/
def julianSuccessorUptoCard : Claim7 := { stood := { row := julianSuccessorUptoRow, standIns := [], harness := (true, "a696ea8fd7663b45987a608de6390415f82d50fa5bc0821e7abb3e9d0bbc09ed"), looks := false }, kinds := [], alts := [], laidByText := true, laidKinds := [.data], laidTests := true, laidLooks := .later }
def JulianSuccessorUptoCardSaid : Prop := Claim7.holds Tryd.pinned (.plain (OpenSpec.upto julianSuccessorSpec)) julianSuccessorUptoCard

/-- THE SECOND FORM's CARD OF 'computuslaw02.JulianOrder'. -/
def julianOrderUptoCard : Claim7 := { stood := { row := julianOrderUptoRow, standIns := [], harness := (true, "a696ea8fd7663b45987a608de6390415f82d50fa5bc0821e7abb3e9d0bbc09ed"), looks := false }, kinds := [], alts := [], laidByText := true, laidKinds := [.data], laidTests := true, laidLooks := .later }
def JulianOrderUptoCardSaid : Prop := Claim7.holds Tryd.pinned (.plain (OpenSpec.upto julianOrderSpec)) julianOrderUptoCard

/-- THE SECOND FORM's CARD OF 'computuslaw02.JulianYears'. -/
def julianYearsUptoCard : Claim7 := { stood := { row := julianYearsUptoRow, standIns := [], harness := (true, "a696ea8fd7663b45987a608de6390415f82d50fa5bc0821e7abb3e9d0bbc09ed"), looks := false }, kinds := [], alts := [], laidByText := true, laidKinds := [.data], laidTests := true, laidLooks := .later }
def JulianYearsUptoCardSaid : Prop := Claim7.holds Tryd.pinned (.plain (OpenSpec.upto julianYearsSpec)) julianYearsUptoCard

/-- THE SECOND FORM's CARD OF 'computuslaw02.JulianMonths'. -/
def julianMonthsUptoCard : Claim7 := { stood := { row := julianMonthsUptoRow, standIns := [], harness := (true, "a696ea8fd7663b45987a608de6390415f82d50fa5bc0821e7abb3e9d0bbc09ed"), looks := false }, kinds := [], alts := [], laidByText := true, laidKinds := [.data], laidTests := true, laidLooks := .later }
def JulianMonthsUptoCardSaid : Prop := Claim7.holds Tryd.pinned (.plain (OpenSpec.upto julianMonthsSpec)) julianMonthsUptoCard
end Rows
end Go.Proofs.YtmdeeofeikdeeaaDoor
