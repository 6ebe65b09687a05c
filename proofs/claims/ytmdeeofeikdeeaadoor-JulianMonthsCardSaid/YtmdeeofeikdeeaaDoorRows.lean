/-
  NARROWER THAN 'FOR EVERY INPUT', by the rows' own cells (each row's printed sentence says how): JulianMatchesReference: laid · JulianRoundTrip: laid · JulianSuccessor: laid · JulianOrder: laid · JulianYears: laid · JulianMonths: laid.
  DERIVED. THE GIVEN ROWS OF THIS SEAT. 6 by the template 'for every input the law returns true; each argument reads behind the call as it read before'; 0 by the template 'total and deterministic' (their statements: YtmdeeofeikdeeaaDoorTotals.lean).
  GIVEN WITH THE SEED: the statements are not yours to turn. If you find one false, say at which input.
  Laid BY PROGRAM, IN A SANDBOX (cutbox-rows.mjs): the forced cells as the released guide's own fill.sh prints them over the translation ca3d5950a88870d4… (all of the seat's roots in one cut). By AI agents, Wed Nov 11 2026. No macro, syntax, notation, axiom, sorry.
-/
import Derived.Test.YtmdeeofeikdeeaaDoorChecked
import GoSem.Claim
import GoSem.ClaimJoined
import GoSem.ClaimMapViews
import Derived.JoinedTies
import Derived.KernelRfl
namespace Go.Proofs.YtmdeeofeikdeeaaDoor
/- THE CELL 'sum', in the pinned program and in every row, IS THE sha256 OF THE DUMP (.gsa) THAT YtmdeeofeikdeeaaDoorProg.lean LOADS. Nothing in Lean hashes anything: it is a label: what it is worth is what the hold of that sum in a sandbox is worth. -/
noncomputable def Tryd.pinned : Pinned := { name := "ytmdeeofeikdeeaadoor", sum := "ca3d5950a88870d4c2be13e74d8ddca867f45004cc1fc2b6c8b70c915bf8b25c", checked := Tryd.checked }
namespace Rows
def none {H : Type} : Left H := { results := [], args := [] }

/- WHAT THE LISTED PACKAGE-LEVEL VARIABLES READ AS WHEN THE CALL BEGINS. Each datum BY PROGRAM (the guide's laid-datum.mjs) off the statement by which the dump's own 'gosem.cut.vars' lays the variable. In a bare row this is a premise. The card (YtmdeeofeikdeeaaDoorCards.lean) ties it to the program's text. -/
def laid_computus_julian_lengths {H : Type} : DataW H := .agg [.lit (.int .i64 31), .lit (.int .i64 28), .lit (.int .i64 31), .lit (.int .i64 30), .lit (.int .i64 31), .lit (.int .i64 30), .lit (.int .i64 31), .lit (.int .i64 31), .lit (.int .i64 30), .lit (.int .i64 31), .lit (.int .i64 30), .lit (.int .i64 31)]

/-- 'computuslaw02.JulianMatchesReference': WHATEVER THE INPUT: true; the input reads as it did. -/
def julianMatchesReferenceSpec : ChangeSpec := { name := "julianMatchesReference", fn := fun _ => fun
  | [d1, d2, d3, d4] => { results := [.lit (.bool true)], args := [d1, d2, d3, d4] }
  | _ => none }
def julianMatchesReferenceRow : OpenClaim := { program := "ytmdeeofeikdeeaadoor", sum := "ca3d5950a88870d4c2be13e74d8ddca867f45004cc1fc2b6c8b70c915bf8b25c", func := "computus/computuslaw02.JulianMatchesReference", spec := "julianMatchesReference", named := ["computus/julian.lengths"], apart := false, laid := [("computus/julian.lengths", laid_computus_julian_lengths)] }
def JulianMatchesReferenceSaid : Prop := julianMatchesReferenceRow.holds Tryd.pinned (OpenSpec.ofChange julianMatchesReferenceSpec)

/-- ITS FALSE NEIGHBOUR: 'it returns false'. Refute it at one input. -/
def julianMatchesReferenceWrong : ChangeSpec := { name := "julianMatchesReference", fn := fun _ => fun
  | [d1, d2, d3, d4] => { results := [.lit (.bool false)], args := [d1, d2, d3, d4] }
  | _ => none }
def JulianMatchesReferenceWrongFalsely : Prop := julianMatchesReferenceRow.holds Tryd.pinned (OpenSpec.ofChange julianMatchesReferenceWrong)

/-- 'computuslaw02.JulianRoundTrip': WHATEVER THE INPUT: true; the input reads as it did. -/
def julianRoundTripSpec : ChangeSpec := { name := "julianRoundTrip", fn := fun _ => fun
  | [d1, d2] => { results := [.lit (.bool true)], args := [d1, d2] }
  | _ => none }
def julianRoundTripRow : OpenClaim := { program := "ytmdeeofeikdeeaadoor", sum := "ca3d5950a88870d4c2be13e74d8ddca867f45004cc1fc2b6c8b70c915bf8b25c", func := "computus/computuslaw02.JulianRoundTrip", spec := "julianRoundTrip", named := ["computus/julian.lengths"], apart := false, laid := [("computus/julian.lengths", laid_computus_julian_lengths)] }
def JulianRoundTripSaid : Prop := julianRoundTripRow.holds Tryd.pinned (OpenSpec.ofChange julianRoundTripSpec)

/-- ITS FALSE NEIGHBOUR: 'it returns false'. Refute it at one input. -/
def julianRoundTripWrong : ChangeSpec := { name := "julianRoundTrip", fn := fun _ => fun
  | [d1, d2] => { results := [.lit (.bool false)], args := [d1, d2] }
  | _ => none }
def JulianRoundTripWrongFalsely : Prop := julianRoundTripRow.holds Tryd.pinned (OpenSpec.ofChange julianRoundTripWrong)

/-- 'computuslaw02.JulianSuccessor': WHATEVER THE INPUT: true; the input reads as it did. -/
def julianSuccessorSpec : ChangeSpec := { name := "julianSuccessor", fn := fun _ => fun
  | [d] => { results := [.lit (.bool true)], args := [d] }
  | _ => none }
def julianSuccessorRow : OpenClaim := { program := "ytmdeeofeikdeeaadoor", sum := "ca3d5950a88870d4c2be13e74d8ddca867f45004cc1fc2b6c8b70c915bf8b25c", func := "computus/computuslaw02.JulianSuccessor", spec := "julianSuccessor", named := ["computus/julian.lengths"], apart := false, laid := [("computus/julian.lengths", laid_computus_julian_lengths)] }
def JulianSuccessorSaid : Prop := julianSuccessorRow.holds Tryd.pinned (OpenSpec.ofChange julianSuccessorSpec)

/-- ITS FALSE NEIGHBOUR: 'it returns false'. Refute it at one input. -/
def julianSuccessorWrong : ChangeSpec := { name := "julianSuccessor", fn := fun _ => fun
  | [d] => { results := [.lit (.bool false)], args := [d] }
  | _ => none }
def JulianSuccessorWrongFalsely : Prop := julianSuccessorRow.holds Tryd.pinned (OpenSpec.ofChange julianSuccessorWrong)

/-- 'computuslaw02.JulianOrder': WHATEVER THE INPUT: true; the input reads as it did. -/
def julianOrderSpec : ChangeSpec := { name := "julianOrder", fn := fun _ => fun
  | [d1, d2] => { results := [.lit (.bool true)], args := [d1, d2] }
  | _ => none }
def julianOrderRow : OpenClaim := { program := "ytmdeeofeikdeeaadoor", sum := "ca3d5950a88870d4c2be13e74d8ddca867f45004cc1fc2b6c8b70c915bf8b25c", func := "computus/computuslaw02.JulianOrder", spec := "julianOrder", named := ["computus/julian.lengths"], apart := false, laid := [("computus/julian.lengths", laid_computus_julian_lengths)] }
def JulianOrderSaid : Prop := julianOrderRow.holds Tryd.pinned (OpenSpec.ofChange julianOrderSpec)

/-- ITS FALSE NEIGHBOUR: 'it returns false'. Refute it at one input. -/
def julianOrderWrong : ChangeSpec := { name := "julianOrder", fn := fun _ => fun
  | [d1, d2] => { results := [.lit (.bool false)], args := [d1, d2] }
  | _ => none }
def JulianOrderWrongFalsely : Prop := julianOrderRow.holds Tryd.pinned (OpenSpec.ofChange julianOrderWrong)

/-- 'computuslaw02.JulianYears': WHATEVER THE INPUT: true; the input reads as it did. -/
def julianYearsSpec : ChangeSpec := { name := "julianYears", fn := fun _ => fun
  | [d] => { results := [.lit (.bool true)], args := [d] }
  | _ => none }
def julianYearsRow : OpenClaim := { program := "ytmdeeofeikdeeaadoor", sum := "ca3d5950a88870d4c2be13e74d8ddca867f45004cc1fc2b6c8b70c915bf8b25c", func := "computus/computuslaw02.JulianYears", spec := "julianYears", named := ["computus/julian.lengths"], apart := false, laid := [("computus/julian.lengths", laid_computus_julian_lengths)] }
def JulianYearsSaid : Prop := julianYearsRow.holds Tryd.pinned (OpenSpec.ofChange julianYearsSpec)

/-- ITS FALSE NEIGHBOUR: 'it returns false'. Refute it at one input. -/
def julianYearsWrong : ChangeSpec := { name := "julianYears", fn := fun _ => fun
  | [d] => { results := [.lit (.bool false)], args := [d] }
  | _ => none }
def JulianYearsWrongFalsely : Prop := julianYearsRow.holds Tryd.pinned (OpenSpec.ofChange julianYearsWrong)

/-- 'computuslaw02.JulianMonths': WHATEVER THE INPUT: true; the input reads as it did. -/
def julianMonthsSpec : ChangeSpec := { name := "julianMonths", fn := fun _ => fun
  | [d1, d2] => { results := [.lit (.bool true)], args := [d1, d2] }
  | _ => none }
def julianMonthsRow : OpenClaim := { program := "ytmdeeofeikdeeaadoor", sum := "ca3d5950a88870d4c2be13e74d8ddca867f45004cc1fc2b6c8b70c915bf8b25c", func := "computus/computuslaw02.JulianMonths", spec := "julianMonths", named := ["computus/julian.lengths"], apart := false, laid := [("computus/julian.lengths", laid_computus_julian_lengths)] }
def JulianMonthsSaid : Prop := julianMonthsRow.holds Tryd.pinned (OpenSpec.ofChange julianMonthsSpec)

/-- ITS FALSE NEIGHBOUR: 'it returns false'. Refute it at one input. -/
def julianMonthsWrong : ChangeSpec := { name := "julianMonths", fn := fun _ => fun
  | [d1, d2] => { results := [.lit (.bool false)], args := [d1, d2] }
  | _ => none }
def JulianMonthsWrongFalsely : Prop := julianMonthsRow.holds Tryd.pinned (OpenSpec.ofChange julianMonthsWrong)

/- THE SECOND FORM. 'bulk': how many values and letters a reading holds, each counted each time it is reached (what is shared counts as often as it is met; a slice's spare places count too). A statement '..UptoSaid' is the law's where the arguments, and the package variables that the reading takes, are together of bulk at most 1048576: NARROWER than '..Said'. Prove '..Said' where nothing that the law and all that it calls make is longer than what came in: it says more and counts as full. Else prove '..UptoSaid'. A law counts once. -/
mutual
def uptoBulk {H : Type} : DataW H → Nat
  | .lit (.string bytes) => bytes.length + 1
  | .lit _ => 1
  | .nil => 1
  | .ptr d => uptoBulk d + 1
  | .slice elems spare => uptoBulkAll elems + uptoBulkAll spare + 1
  | .agg parts => uptoBulkAll parts + 1
  | .iface _ d => uptoBulk d + 1
  | .map entries => uptoBulkEntries entries + 1
  | .held _ => 1
def uptoBulkAll {H : Type} : List (DataW H) → Nat
  | [] => 0
  | d :: r => uptoBulk d + uptoBulkAll r
def uptoBulkEntries {H : Type} : List (Lit × DataW H) → Nat
  | [] => 0
  | x :: r => uptoBulkEntry x + uptoBulkEntries r
def uptoBulkEntry {H : Type} : Lit × DataW H → Nat
  | (.string bytes, d) => bytes.length + uptoBulk d + 1
  | (_, d) => uptoBulk d + 1
 end
def uptoSmall : (H : Type) → List (DataW H) → Bool := fun _ ds => decide (uptoBulkAll ds ≤ 1048576)
def OpenSpec.upto (s : _root_.Go.ChangeSpec) : _root_.Go.OpenSpec := { _root_.Go.OpenSpec.ofChange s with cond := some uptoSmall }

/-- 'computuslaw02.JulianMatchesReference', WHERE WHAT IT READS IS OF BULK AT MOST 1048576: true; the input reads as it did. -/
def julianMatchesReferenceUptoRow : OpenClaim := { program := "ytmdeeofeikdeeaadoor", sum := "ca3d5950a88870d4c2be13e74d8ddca867f45004cc1fc2b6c8b70c915bf8b25c", func := "computus/computuslaw02.JulianMatchesReference", spec := "julianMatchesReference", named := ["computus/julian.lengths"], apart := false, laid := [("computus/julian.lengths", laid_computus_julian_lengths)], narrowed := true }
def JulianMatchesReferenceUptoSaid : Prop := julianMatchesReferenceUptoRow.holds Tryd.pinned (OpenSpec.upto julianMatchesReferenceSpec)

/-- 'computuslaw02.JulianRoundTrip', WHERE WHAT IT READS IS OF BULK AT MOST 1048576: true; the input reads as it did. -/
def julianRoundTripUptoRow : OpenClaim := { program := "ytmdeeofeikdeeaadoor", sum := "ca3d5950a88870d4c2be13e74d8ddca867f45004cc1fc2b6c8b70c915bf8b25c", func := "computus/computuslaw02.JulianRoundTrip", spec := "julianRoundTrip", named := ["computus/julian.lengths"], apart := false, laid := [("computus/julian.lengths", laid_computus_julian_lengths)], narrowed := true }
def JulianRoundTripUptoSaid : Prop := julianRoundTripUptoRow.holds Tryd.pinned (OpenSpec.upto julianRoundTripSpec)

/-- 'computuslaw02.JulianSuccessor', WHERE WHAT IT READS IS OF BULK AT MOST 1048576: true; the input reads as it did. -/
def julianSuccessorUptoRow : OpenClaim := { program := "ytmdeeofeikdeeaadoor", sum := "ca3d5950a88870d4c2be13e74d8ddca867f45004cc1fc2b6c8b70c915bf8b25c", func := "computus/computuslaw02.JulianSuccessor", spec := "julianSuccessor", named := ["computus/julian.lengths"], apart := false, laid := [("computus/julian.lengths", laid_computus_julian_lengths)], narrowed := true }
def JulianSuccessorUptoSaid : Prop := julianSuccessorUptoRow.holds Tryd.pinned (OpenSpec.upto julianSuccessorSpec)

/-- 'computuslaw02.JulianOrder', WHERE WHAT IT READS IS OF BULK AT MOST 1048576: true; the input reads as it did. -/
def julianOrderUptoRow : OpenClaim := { program := "ytmdeeofeikdeeaadoor", sum := "ca3d5950a88870d4c2be13e74d8ddca867f45004cc1fc2b6c8b70c915bf8b25c", func := "computus/computuslaw02.JulianOrder", spec := "julianOrder", named := ["computus/julian.lengths"], apart := false, laid := [("computus/julian.lengths", laid_computus_julian_lengths)], narrowed := true }
def JulianOrderUptoSaid : Prop := julianOrderUptoRow.holds Tryd.pinned (OpenSpec.upto julianOrderSpec)

/-- 'computuslaw02.JulianYears', WHERE WHAT IT READS IS OF BULK AT MOST 1048576: true; the input reads as it did. -/
def julianYearsUptoRow : OpenClaim := { program := "ytmdeeofeikdeeaadoor", sum := "ca3d5950a88870d4c2be13e74d8ddca867f45004cc1fc2b6c8b70c915bf8b25c", func := "computus/computuslaw02.JulianYears", spec := "julianYears", named := ["computus/julian.lengths"], apart := false, laid := [("computus/julian.lengths", laid_computus_julian_lengths)], narrowed := true }
def JulianYearsUptoSaid : Prop := julianYearsUptoRow.holds Tryd.pinned (OpenSpec.upto julianYearsSpec)

/-- 'computuslaw02.JulianMonths', WHERE WHAT IT READS IS OF BULK AT MOST 1048576: true; the input reads as it did. -/
def julianMonthsUptoRow : OpenClaim := { program := "ytmdeeofeikdeeaadoor", sum := "ca3d5950a88870d4c2be13e74d8ddca867f45004cc1fc2b6c8b70c915bf8b25c", func := "computus/computuslaw02.JulianMonths", spec := "julianMonths", named := ["computus/julian.lengths"], apart := false, laid := [("computus/julian.lengths", laid_computus_julian_lengths)], narrowed := true }
def JulianMonthsUptoSaid : Prop := julianMonthsUptoRow.holds Tryd.pinned (OpenSpec.upto julianMonthsSpec)

end Rows
end Go.Proofs.YtmdeeofeikdeeaaDoor
