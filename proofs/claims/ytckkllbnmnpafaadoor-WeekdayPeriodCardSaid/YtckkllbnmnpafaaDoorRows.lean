/-
  NARROWER THAN 'FOR EVERY INPUT', by the rows' own cells (each row's printed sentence says how): WeekdayMatchesReference: laid · WeekdayNearest: laid · WeekdayPeriod: laid · WeekdayNth: laid · WeekdayNames: laid.
  DERIVED. THE GIVEN ROWS OF THIS SEAT. 5 by the template 'for every input the law returns true; each argument reads behind the call as it read before'; 0 by the template 'total and deterministic' (their statements: YtckkllbnmnpafaaDoorTotals.lean).
  GIVEN WITH THE SEED: the statements are not yours to turn. If you find one false, say at which input.
  Laid BY PROGRAM, IN A SANDBOX (cutbox-rows.mjs): the forced cells as the released guide's own fill.sh prints them over the translation 0963016d50cbf412… (all of the seat's roots in one cut). By AI agents, Wed Nov 11 2026. No macro, syntax, notation, axiom, sorry.
-/
import Derived.Test.YtckkllbnmnpafaaDoorChecked
import GoSem.Claim
import GoSem.ClaimJoined
import GoSem.ClaimMapViews
import Derived.JoinedTies
import Derived.KernelRfl
namespace Go.Proofs.YtckkllbnmnpafaaDoor
/- THE CELL 'sum', in the pinned program and in every row, IS THE sha256 OF THE DUMP (.gsa) THAT YtckkllbnmnpafaaDoorProg.lean LOADS. Nothing in Lean hashes anything: it is a label: what it is worth is what the hold of that sum in a sandbox is worth. -/
noncomputable def Tryd.pinned : Pinned := { name := "ytckkllbnmnpafaadoor", sum := "0963016d50cbf41202fb2e35a16b39b3b89ae108b0ddf82fcb634fd914b54a36", checked := Tryd.checked }
namespace Rows
def none {H : Type} : Left H := { results := [], args := [] }

/- WHAT THE LISTED PACKAGE-LEVEL VARIABLES READ AS WHEN THE CALL BEGINS. Each datum BY PROGRAM (the guide's laid-datum.mjs) off the statement by which the dump's own 'gosem.cut.vars' lays the variable. In a bare row this is a premise. The card (YtckkllbnmnpafaaDoorCards.lean) ties it to the program's text. -/
def laid_computus_weekday_names {H : Type} : DataW H := .agg [.lit (.string [115, 117, 110, 100, 97, 121]), .lit (.string [109, 111, 110, 100, 97, 121]), .lit (.string [116, 117, 101, 115, 100, 97, 121]), .lit (.string [119, 101, 100, 110, 101, 115, 100, 97, 121]), .lit (.string [116, 104, 117, 114, 115, 100, 97, 121]), .lit (.string [102, 114, 105, 100, 97, 121]), .lit (.string [115, 97, 116, 117, 114, 100, 97, 121])]

/-- 'computuslaw04.WeekdayMatchesReference': WHATEVER THE INPUT: true; the input reads as it did. -/
def weekdayMatchesReferenceSpec : ChangeSpec := { name := "weekdayMatchesReference", fn := fun _ => fun
  | [d1, d2, d3, d4] => { results := [.lit (.bool true)], args := [d1, d2, d3, d4] }
  | _ => none }
def weekdayMatchesReferenceRow : OpenClaim := { program := "ytckkllbnmnpafaadoor", sum := "0963016d50cbf41202fb2e35a16b39b3b89ae108b0ddf82fcb634fd914b54a36", func := "computus/computuslaw04.WeekdayMatchesReference", spec := "weekdayMatchesReference", named := ["computus/weekday.names"], apart := false, laid := [("computus/weekday.names", laid_computus_weekday_names)] }
def WeekdayMatchesReferenceSaid : Prop := weekdayMatchesReferenceRow.holds Tryd.pinned (OpenSpec.ofChange weekdayMatchesReferenceSpec)

/-- ITS FALSE NEIGHBOUR: 'it returns false'. Refute it at one input. -/
def weekdayMatchesReferenceWrong : ChangeSpec := { name := "weekdayMatchesReference", fn := fun _ => fun
  | [d1, d2, d3, d4] => { results := [.lit (.bool false)], args := [d1, d2, d3, d4] }
  | _ => none }
def WeekdayMatchesReferenceWrongFalsely : Prop := weekdayMatchesReferenceRow.holds Tryd.pinned (OpenSpec.ofChange weekdayMatchesReferenceWrong)

/-- 'computuslaw04.WeekdayNearest': WHATEVER THE INPUT: true; the input reads as it did. -/
def weekdayNearestSpec : ChangeSpec := { name := "weekdayNearest", fn := fun _ => fun
  | [d1, d2] => { results := [.lit (.bool true)], args := [d1, d2] }
  | _ => none }
def weekdayNearestRow : OpenClaim := { program := "ytckkllbnmnpafaadoor", sum := "0963016d50cbf41202fb2e35a16b39b3b89ae108b0ddf82fcb634fd914b54a36", func := "computus/computuslaw04.WeekdayNearest", spec := "weekdayNearest", named := ["computus/weekday.names"], apart := false, laid := [("computus/weekday.names", laid_computus_weekday_names)] }
def WeekdayNearestSaid : Prop := weekdayNearestRow.holds Tryd.pinned (OpenSpec.ofChange weekdayNearestSpec)

/-- ITS FALSE NEIGHBOUR: 'it returns false'. Refute it at one input. -/
def weekdayNearestWrong : ChangeSpec := { name := "weekdayNearest", fn := fun _ => fun
  | [d1, d2] => { results := [.lit (.bool false)], args := [d1, d2] }
  | _ => none }
def WeekdayNearestWrongFalsely : Prop := weekdayNearestRow.holds Tryd.pinned (OpenSpec.ofChange weekdayNearestWrong)

/-- 'computuslaw04.WeekdayPeriod': WHATEVER THE INPUT: true; the input reads as it did. -/
def weekdayPeriodSpec : ChangeSpec := { name := "weekdayPeriod", fn := fun _ => fun
  | [d] => { results := [.lit (.bool true)], args := [d] }
  | _ => none }
def weekdayPeriodRow : OpenClaim := { program := "ytckkllbnmnpafaadoor", sum := "0963016d50cbf41202fb2e35a16b39b3b89ae108b0ddf82fcb634fd914b54a36", func := "computus/computuslaw04.WeekdayPeriod", spec := "weekdayPeriod", named := ["computus/weekday.names"], apart := false, laid := [("computus/weekday.names", laid_computus_weekday_names)] }
def WeekdayPeriodSaid : Prop := weekdayPeriodRow.holds Tryd.pinned (OpenSpec.ofChange weekdayPeriodSpec)

/-- ITS FALSE NEIGHBOUR: 'it returns false'. Refute it at one input. -/
def weekdayPeriodWrong : ChangeSpec := { name := "weekdayPeriod", fn := fun _ => fun
  | [d] => { results := [.lit (.bool false)], args := [d] }
  | _ => none }
def WeekdayPeriodWrongFalsely : Prop := weekdayPeriodRow.holds Tryd.pinned (OpenSpec.ofChange weekdayPeriodWrong)

/-- 'computuslaw04.WeekdayNth': WHATEVER THE INPUT: true; the input reads as it did. -/
def weekdayNthSpec : ChangeSpec := { name := "weekdayNth", fn := fun _ => fun
  | [d1, d2, d3] => { results := [.lit (.bool true)], args := [d1, d2, d3] }
  | _ => none }
def weekdayNthRow : OpenClaim := { program := "ytckkllbnmnpafaadoor", sum := "0963016d50cbf41202fb2e35a16b39b3b89ae108b0ddf82fcb634fd914b54a36", func := "computus/computuslaw04.WeekdayNth", spec := "weekdayNth", named := ["computus/weekday.names"], apart := false, laid := [("computus/weekday.names", laid_computus_weekday_names)] }
def WeekdayNthSaid : Prop := weekdayNthRow.holds Tryd.pinned (OpenSpec.ofChange weekdayNthSpec)

/-- ITS FALSE NEIGHBOUR: 'it returns false'. Refute it at one input. -/
def weekdayNthWrong : ChangeSpec := { name := "weekdayNth", fn := fun _ => fun
  | [d1, d2, d3] => { results := [.lit (.bool false)], args := [d1, d2, d3] }
  | _ => none }
def WeekdayNthWrongFalsely : Prop := weekdayNthRow.holds Tryd.pinned (OpenSpec.ofChange weekdayNthWrong)

/-- 'computuslaw04.WeekdayNames': WHATEVER THE INPUT: true; the input reads as it did. -/
def weekdayNamesSpec : ChangeSpec := { name := "weekdayNames", fn := fun _ => fun
  | [d1, d2, d3] => { results := [.lit (.bool true)], args := [d1, d2, d3] }
  | _ => none }
def weekdayNamesRow : OpenClaim := { program := "ytckkllbnmnpafaadoor", sum := "0963016d50cbf41202fb2e35a16b39b3b89ae108b0ddf82fcb634fd914b54a36", func := "computus/computuslaw04.WeekdayNames", spec := "weekdayNames", named := ["computus/weekday.names"], apart := false, laid := [("computus/weekday.names", laid_computus_weekday_names)] }
def WeekdayNamesSaid : Prop := weekdayNamesRow.holds Tryd.pinned (OpenSpec.ofChange weekdayNamesSpec)

/-- ITS FALSE NEIGHBOUR: 'it returns false'. Refute it at one input. -/
def weekdayNamesWrong : ChangeSpec := { name := "weekdayNames", fn := fun _ => fun
  | [d1, d2, d3] => { results := [.lit (.bool false)], args := [d1, d2, d3] }
  | _ => none }
def WeekdayNamesWrongFalsely : Prop := weekdayNamesRow.holds Tryd.pinned (OpenSpec.ofChange weekdayNamesWrong)

/- THE SECOND FORM. 'bulk': how many values and letters a reading holds, each counted each time it is reached (what is shared counts as often as it is met; a slice's spare places count too). A statement '..UptoSaid' is the law's where the arguments, and the package variables that the reading takes, are together of bulk at most 1048576: NARROWER than '..Said'. Prove '..Said' where nothing that the law and all that it calls make is longer than what came in: it says more and counts as full. Else prove '..UptoSaid'. A law counts once. -/
mutual
def uptoBulk {H : Type} : DataW H → Nat
  | .lit (.string bytes) => bytes.length + 1
  | .lit _ => 1
  | .nil => 1
  | .ptr d => uptoBulk d + 1
  | .slice elems spare => uptoBulkAll elems + uptoBulkAll spare + 1
  | .agg parts => uptoBulkAll parts + 1
  | .iface _ d => uptoBulk d + 1
  | .map entries => uptoBulkEntries entries + 1
  | .held _ => 1
def uptoBulkAll {H : Type} : List (DataW H) → Nat
  | [] => 0
  | d :: r => uptoBulk d + uptoBulkAll r
def uptoBulkEntries {H : Type} : List (Lit × DataW H) → Nat
  | [] => 0
  | x :: r => uptoBulkEntry x + uptoBulkEntries r
def uptoBulkEntry {H : Type} : Lit × DataW H → Nat
  | (.string bytes, d) => bytes.length + uptoBulk d + 1
  | (_, d) => uptoBulk d + 1
 end
def uptoSmall : (H : Type) → List (DataW H) → Bool := fun _ ds => decide (uptoBulkAll ds ≤ 1048576)
def OpenSpec.upto (s : _root_.Go.ChangeSpec) : _root_.Go.OpenSpec := { _root_.Go.OpenSpec.ofChange s with cond := some uptoSmall }

/-- 'computuslaw04.WeekdayMatchesReference', WHERE WHAT IT READS IS OF BULK AT MOST 1048576: true; the input reads as it did. -/
def weekdayMatchesReferenceUptoRow : OpenClaim := { program := "ytckkllbnmnpafaadoor", sum := "0963016d50cbf41202fb2e35a16b39b3b89ae108b0ddf82fcb634fd914b54a36", func := "computus/computuslaw04.WeekdayMatchesReference", spec := "weekdayMatchesReference", named := ["computus/weekday.names"], apart := false, laid := [("computus/weekday.names", laid_computus_weekday_names)], narrowed := true }
def WeekdayMatchesReferenceUptoSaid : Prop := weekdayMatchesReferenceUptoRow.holds Tryd.pinned (OpenSpec.upto weekdayMatchesReferenceSpec)

/-- 'computuslaw04.WeekdayNearest', WHERE WHAT IT READS IS OF BULK AT MOST 1048576: true; the input reads as it did. -/
def weekdayNearestUptoRow : OpenClaim := { program := "ytckkllbnmnpafaadoor", sum := "0963016d50cbf41202fb2e35a16b39b3b89ae108b0ddf82fcb634fd914b54a36", func := "computus/computuslaw04.WeekdayNearest", spec := "weekdayNearest", named := ["computus/weekday.names"], apart := false, laid := [("computus/weekday.names", laid_computus_weekday_names)], narrowed := true }
def WeekdayNearestUptoSaid : Prop := weekdayNearestUptoRow.holds Tryd.pinned (OpenSpec.upto weekdayNearestSpec)

/-- 'computuslaw04.WeekdayPeriod', WHERE WHAT IT READS IS OF BULK AT MOST 1048576: true; the input reads as it did. -/
def weekdayPeriodUptoRow : OpenClaim := { program := "ytckkllbnmnpafaadoor", sum := "0963016d50cbf41202fb2e35a16b39b3b89ae108b0ddf82fcb634fd914b54a36", func := "computus/computuslaw04.WeekdayPeriod", spec := "weekdayPeriod", named := ["computus/weekday.names"], apart := false, laid := [("computus/weekday.names", laid_computus_weekday_names)], narrowed := true }
def WeekdayPeriodUptoSaid : Prop := weekdayPeriodUptoRow.holds Tryd.pinned (OpenSpec.upto weekdayPeriodSpec)

/-- 'computuslaw04.WeekdayNth', WHERE WHAT IT READS IS OF BULK AT MOST 1048576: true; the input reads as it did. -/
def weekdayNthUptoRow : OpenClaim := { program := "ytckkllbnmnpafaadoor", sum := "0963016d50cbf41202fb2e35a16b39b3b89ae108b0ddf82fcb634fd914b54a36", func := "computus/computuslaw04.WeekdayNth", spec := "weekdayNth", named := ["computus/weekday.names"], apart := false, laid := [("computus/weekday.names", laid_computus_weekday_names)], narrowed := true }
def WeekdayNthUptoSaid : Prop := weekdayNthUptoRow.holds Tryd.pinned (OpenSpec.upto weekdayNthSpec)

/-- 'computuslaw04.WeekdayNames', WHERE WHAT IT READS IS OF BULK AT MOST 1048576: true; the input reads as it did. -/
def weekdayNamesUptoRow : OpenClaim := { program := "ytckkllbnmnpafaadoor", sum := "0963016d50cbf41202fb2e35a16b39b3b89ae108b0ddf82fcb634fd914b54a36", func := "computus/computuslaw04.WeekdayNames", spec := "weekdayNames", named := ["computus/weekday.names"], apart := false, laid := [("computus/weekday.names", laid_computus_weekday_names)], narrowed := true }
def WeekdayNamesUptoSaid : Prop := weekdayNamesUptoRow.holds Tryd.pinned (OpenSpec.upto weekdayNamesSpec)

end Rows
end Go.Proofs.YtckkllbnmnpafaaDoor
