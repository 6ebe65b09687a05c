/-
  DERIVED. GIVEN WITH THE SEED: THE CARDS: each row of YtckkllbnmnpafaaDoorRows.lean that lists a variable, with what it lists TIED to the program's text (the seventh form; the later family's looks); each row that meets fmt, with fmt's text TOLD by the authors' own Lean function (tested against real Go, not proved from fmt's source: count such statements apart). THE CARD IS WHAT COUNTS. Prove the row's statement (the work); the ties are given (YtckkllbnmnpafaaDoorTie.lean); close each card by the builder's one call (the guide's Derived/Test/ToyasCard.lean, 'card_holds'). Laid BY PROGRAM, IN A SANDBOX (cutbox-door.mjs). By AI agents, Wed Nov 11 2026. No macro, syntax, notation, axiom, sorry.
-/
import Derived.Test.YtckkllbnmnpafaaDoorRows
import GoSem.ClaimSeven
namespace Go.Proofs.YtckkllbnmnpafaaDoor
namespace Rows

/-- THE TIED CARD OF 'computuslaw04.WeekdayMatchesReference'. -/
def weekdayMatchesReferenceCard : Claim7 := { stood := { row := weekdayMatchesReferenceRow, standIns := [], harness := (true, "cf2f788374238d4a1d1cfc0760a351a645c0ad2efe73362c2e1334ead92a925a"), looks := false }, kinds := [], alts := [], laidByText := true, laidKinds := [.data], laidTests := true, laidLooks := .later }
def WeekdayMatchesReferenceCardSaid : Prop := Claim7.holds Tryd.pinned (.plain (OpenSpec.ofChange weekdayMatchesReferenceSpec)) weekdayMatchesReferenceCard

/-- THE TIED CARD OF 'computuslaw04.WeekdayNearest'. -/
def weekdayNearestCard : Claim7 := { stood := { row := weekdayNearestRow, standIns := [], harness := (true, "cf2f788374238d4a1d1cfc0760a351a645c0ad2efe73362c2e1334ead92a925a"), looks := false }, kinds := [], alts := [], laidByText := true, laidKinds := [.data], laidTests := true, laidLooks := .later }
def WeekdayNearestCardSaid : Prop := Claim7.holds Tryd.pinned (.plain (OpenSpec.ofChange weekdayNearestSpec)) weekdayNearestCard

/-- THE TIED CARD OF 'computuslaw04.WeekdayPeriod'. -/
def weekdayPeriodCard : Claim7 := { stood := { row := weekdayPeriodRow, standIns := [], harness := (true, "cf2f788374238d4a1d1cfc0760a351a645c0ad2efe73362c2e1334ead92a925a"), looks := false }, kinds := [], alts := [], laidByText := true, laidKinds := [.data], laidTests := true, laidLooks := .later }
def WeekdayPeriodCardSaid : Prop := Claim7.holds Tryd.pinned (.plain (OpenSpec.ofChange weekdayPeriodSpec)) weekdayPeriodCard

/-- THE TIED CARD OF 'computuslaw04.WeekdayNth'. -/
def weekdayNthCard : Claim7 := { stood := { row := weekdayNthRow, standIns := [], harness := (true, "cf2f788374238d4a1d1cfc0760a351a645c0ad2efe73362c2e1334ead92a925a"), looks := false }, kinds := [], alts := [], laidByText := true, laidKinds := [.data], laidTests := true, laidLooks := .later }
def WeekdayNthCardSaid : Prop := Claim7.holds Tryd.pinned (.plain (OpenSpec.ofChange weekdayNthSpec)) weekdayNthCard

/-- THE TIED CARD OF 'computuslaw04.WeekdayNames'. -/
def weekdayNamesCard : Claim7 := { stood := { row := weekdayNamesRow, standIns := [], harness := (true, "cf2f788374238d4a1d1cfc0760a351a645c0ad2efe73362c2e1334ead92a925a"), looks := false }, kinds := [], alts := [], laidByText := true, laidKinds := [.data], laidTests := true, laidLooks := .later }
def WeekdayNamesCardSaid : Prop := Claim7.holds Tryd.pinned (.plain (OpenSpec.ofChange weekdayNamesSpec)) weekdayNamesCard

/-- THE SECOND FORM's CARD OF 'computuslaw04.WeekdayMatchesReference'. -/
def weekdayMatchesReferenceUptoCard : Claim7 := { stood := { row := weekdayMatchesReferenceUptoRow, standIns := [], harness := (true, "cf2f788374238d4a1d1cfc0760a351a645c0ad2efe73362c2e1334ead92a925a"), looks := false }, kinds := [], alts := [], laidByText := true, laidKinds := [.data], laidTests := true, laidLooks := .later }
def WeekdayMatchesReferenceUptoCardSaid : Prop := Claim7.holds Tryd.pinned (.plain (OpenSpec.upto weekdayMatchesReferenceSpec)) weekdayMatchesReferenceUptoCard

/-- THE SECOND FORM's CARD OF 'computuslaw04.WeekdayNearest'. -/
def weekdayNearestUptoCard : Claim7 := { stood := { row := weekdayNearestUptoRow, standIns := [], harness := (true, "cf2f788374238d4a1d1cfc0760a351a645c0ad2efe73362c2e1334ead92a925a"), looks := false }, kinds := [], alts := [], laidByText := true, laidKinds := [.data], laidTests := true, laidLooks := .later }
def WeekdayNearestUptoCardSaid : Prop := Claim7.holds Tryd.pinned (.plain (OpenSpec.upto weekdayNearestSpec)) weekdayNearestUptoCard

/-- THE SECOND FORM's CARD OF 'computuslaw04.WeekdayPeriod'. -/
def weekdayPeriodUptoCard : Claim7 := { stood := { row := weekdayPeriodUptoRow, standIns := [], harness := (true, "cf2f788374238d4a1d1cfc0760a351a645c0ad2efe73362c2e1334ead92a925a"), looks := false }, kinds := [], alts := [], laidByText := true, laidKinds := [.data], laidTests := true, laidLooks := .later }
def WeekdayPeriodUptoCardSaid : Prop := Claim7.holds Tryd.pinned (.plain (OpenSpec.upto weekdayPeriodSpec)) weekdayPeriodUptoCard

/-- THE SECOND FORM's CARD OF 'computuslaw04.WeekdayNth'. -/
def weekdayNthUptoCard : Claim7 := { stood := { row := weekdayNthUptoRow, standIns := [], harness := (true, "cf2f788374238d4a1d1cfc0760a351a645c0ad2efe73362c2e1334ead92a925a"), looks := false }, kinds := [], alts := [], laidByText := true, laidKinds := [.data], laidTests := true, laidLooks := .later }
def WeekdayNthUptoCardSaid : Prop := Claim7.holds Tryd.pinned (.plain (OpenSpec.upto weekdayNthSpec)) weekdayNthUptoCard

/-- THE SECOND FORM's CARD OF 'computuslaw04.WeekdayNames'. -/
def weekdayNamesUptoCard : Claim7 := { stood := { row := weekdayNamesUptoRow, standIns := [], harness := (true, "cf2f788374238d4a1d1cfc0760a351a645c0ad2efe73362c2e1334ead92a925a"), looks := false }, kinds := [], alts := [], laidByText := true, laidKinds := [.data], laidTests := true, laidLooks := .later }
def WeekdayNamesUptoCardSaid : Prop := Claim7.holds Tryd.pinned (.plain (OpenSpec.upto weekdayNamesSpec)) weekdayNamesUptoCard
end Rows
end Go.Proofs.YtckkllbnmnpafaaDoor
