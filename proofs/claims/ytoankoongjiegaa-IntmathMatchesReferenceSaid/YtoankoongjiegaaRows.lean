/-
  No cell of these rows narrows 'for every input' (looked for: loops, veiled, ifaces, maps, wideKeys, modest, calm, conditions, laid).
  DERIVED. THE GIVEN ROWS OF THIS SEAT. 4 by the template 'for every input the law returns true; each argument reads behind the call as it read before'; 0 by the template 'total and deterministic' (their statements: YtoankoongjiegaaTotals.lean).
  GIVEN WITH THE SEED: the statements are not yours to turn. If you find one false, say at which input.
  Laid BY PROGRAM, IN A SANDBOX (cutbox-rows.mjs): the forced cells as the released guide's own fill.sh prints them over the translation 34654f9d7d7fac5a… (all of the seat's roots in one cut). By AI agents, Wed Nov 11 2026. No macro, syntax, notation, axiom, sorry.
-/
import Derived.Test.YtoankoongjiegaaChecked
import GoSem.Claim
import GoSem.ClaimJoined
import GoSem.ClaimMapViews
import Derived.JoinedTies
import Derived.KernelRfl
namespace Go.Proofs.Ytoankoongjiegaa
/- THE CELL 'sum', in the pinned program and in every row, IS THE sha256 OF THE DUMP (.gsa) THAT YtoankoongjiegaaProg.lean LOADS. Nothing in Lean hashes anything: it is a label: what it is worth is what the hold of that sum in a sandbox is worth. -/
noncomputable def Try.pinned : Pinned := { name := "ytoankoongjiegaa", sum := "34654f9d7d7fac5ac31a25c373c73034df5e4406d7bbfd84de1486dfa3fa5614", checked := Try.checked }
namespace Rows
def none {H : Type} : Left H := { results := [], args := [] }

/-- 'computuslaw01.IntmathPeriod': WHATEVER THE INPUT: true; the input reads as it did. -/
def intmathPeriodSpec : ChangeSpec := { name := "intmathPeriod", fn := fun _ => fun
  | [d1, d2] => { results := [.lit (.bool true)], args := [d1, d2] }
  | _ => none }
def intmathPeriodRow : OpenClaim := { program := "ytoankoongjiegaa", sum := "34654f9d7d7fac5ac31a25c373c73034df5e4406d7bbfd84de1486dfa3fa5614", func := "computus/computuslaw01.IntmathPeriod", spec := "intmathPeriod", unfollowed := true, recurses := true, apart := false }
def IntmathPeriodSaid : Prop := intmathPeriodRow.holds Try.pinned (OpenSpec.ofChange intmathPeriodSpec)

/-- ITS FALSE NEIGHBOUR: 'it returns false'. Refute it at one input. -/
def intmathPeriodWrong : ChangeSpec := { name := "intmathPeriod", fn := fun _ => fun
  | [d1, d2] => { results := [.lit (.bool false)], args := [d1, d2] }
  | _ => none }
def IntmathPeriodWrongFalsely : Prop := intmathPeriodRow.holds Try.pinned (OpenSpec.ofChange intmathPeriodWrong)

/-- 'computuslaw01.IntmathClamp': WHATEVER THE INPUT: true; the input reads as it did. -/
def intmathClampSpec : ChangeSpec := { name := "intmathClamp", fn := fun _ => fun
  | [d1, d2, d3, d4] => { results := [.lit (.bool true)], args := [d1, d2, d3, d4] }
  | _ => none }
def intmathClampRow : OpenClaim := { program := "ytoankoongjiegaa", sum := "34654f9d7d7fac5ac31a25c373c73034df5e4406d7bbfd84de1486dfa3fa5614", func := "computus/computuslaw01.IntmathClamp", spec := "intmathClamp", unfollowed := true, recurses := true, apart := false }
def IntmathClampSaid : Prop := intmathClampRow.holds Try.pinned (OpenSpec.ofChange intmathClampSpec)

/-- ITS FALSE NEIGHBOUR: 'it returns false'. Refute it at one input. -/
def intmathClampWrong : ChangeSpec := { name := "intmathClamp", fn := fun _ => fun
  | [d1, d2, d3, d4] => { results := [.lit (.bool false)], args := [d1, d2, d3, d4] }
  | _ => none }
def IntmathClampWrongFalsely : Prop := intmathClampRow.holds Try.pinned (OpenSpec.ofChange intmathClampWrong)

/-- 'computuslaw01.IntmathMatchesReference': WHATEVER THE INPUT: true; the input reads as it did. -/
def intmathMatchesReferenceSpec : ChangeSpec := { name := "intmathMatchesReference", fn := fun _ => fun
  | [d1, d2, d3, d4, d5] => { results := [.lit (.bool true)], args := [d1, d2, d3, d4, d5] }
  | _ => none }
def intmathMatchesReferenceRow : OpenClaim := { program := "ytoankoongjiegaa", sum := "34654f9d7d7fac5ac31a25c373c73034df5e4406d7bbfd84de1486dfa3fa5614", func := "computus/computuslaw01.IntmathMatchesReference", spec := "intmathMatchesReference", unfollowed := true, recurses := true, apart := false }
def IntmathMatchesReferenceSaid : Prop := intmathMatchesReferenceRow.holds Try.pinned (OpenSpec.ofChange intmathMatchesReferenceSpec)

/-- ITS FALSE NEIGHBOUR: 'it returns false'. Refute it at one input. -/
def intmathMatchesReferenceWrong : ChangeSpec := { name := "intmathMatchesReference", fn := fun _ => fun
  | [d1, d2, d3, d4, d5] => { results := [.lit (.bool false)], args := [d1, d2, d3, d4, d5] }
  | _ => none }
def IntmathMatchesReferenceWrongFalsely : Prop := intmathMatchesReferenceRow.holds Try.pinned (OpenSpec.ofChange intmathMatchesReferenceWrong)

/-- 'computuslaw01.IntmathInverse': WHATEVER THE INPUT: true; the input reads as it did. -/
def intmathInverseSpec : ChangeSpec := { name := "intmathInverse", fn := fun _ => fun
  | [d1, d2] => { results := [.lit (.bool true)], args := [d1, d2] }
  | _ => none }
def intmathInverseRow : OpenClaim := { program := "ytoankoongjiegaa", sum := "34654f9d7d7fac5ac31a25c373c73034df5e4406d7bbfd84de1486dfa3fa5614", func := "computus/computuslaw01.IntmathInverse", spec := "intmathInverse", unfollowed := true, recurses := true, apart := false }
def IntmathInverseSaid : Prop := intmathInverseRow.holds Try.pinned (OpenSpec.ofChange intmathInverseSpec)

/-- ITS FALSE NEIGHBOUR: 'it returns false'. Refute it at one input. -/
def intmathInverseWrong : ChangeSpec := { name := "intmathInverse", fn := fun _ => fun
  | [d1, d2] => { results := [.lit (.bool false)], args := [d1, d2] }
  | _ => none }
def IntmathInverseWrongFalsely : Prop := intmathInverseRow.holds Try.pinned (OpenSpec.ofChange intmathInverseWrong)

/- THE SECOND FORM. 'bulk': how many values and letters a reading holds, each counted each time it is reached (what is shared counts as often as it is met; a slice's spare places count too). A statement '..UptoSaid' is the law's where the arguments, and the package variables that the reading takes, are together of bulk at most 1048576: NARROWER than '..Said'. Prove '..Said' where nothing that the law and all that it calls make is longer than what came in: it says more and counts as full. Else prove '..UptoSaid'. A law counts once. -/
mutual
def uptoBulk {H : Type} : DataW H → Nat
  | .lit (.string bytes) => bytes.length + 1
  | .lit _ => 1
  | .nil => 1
  | .ptr d => uptoBulk d + 1
  | .slice elems spare => uptoBulkAll elems + uptoBulkAll spare + 1
  | .agg parts => uptoBulkAll parts + 1
  | .iface _ d => uptoBulk d + 1
  | .map entries => uptoBulkEntries entries + 1
  | .held _ => 1
def uptoBulkAll {H : Type} : List (DataW H) → Nat
  | [] => 0
  | d :: r => uptoBulk d + uptoBulkAll r
def uptoBulkEntries {H : Type} : List (Lit × DataW H) → Nat
  | [] => 0
  | x :: r => uptoBulkEntry x + uptoBulkEntries r
def uptoBulkEntry {H : Type} : Lit × DataW H → Nat
  | (.string bytes, d) => bytes.length + uptoBulk d + 1
  | (_, d) => uptoBulk d + 1
 end
def uptoSmall : (H : Type) → List (DataW H) → Bool := fun _ ds => decide (uptoBulkAll ds ≤ 1048576)
def OpenSpec.upto (s : _root_.Go.ChangeSpec) : _root_.Go.OpenSpec := { _root_.Go.OpenSpec.ofChange s with cond := some uptoSmall }

/-- 'computuslaw01.IntmathPeriod', WHERE WHAT IT READS IS OF BULK AT MOST 1048576: true; the input reads as it did. -/
def intmathPeriodUptoRow : OpenClaim := { program := "ytoankoongjiegaa", sum := "34654f9d7d7fac5ac31a25c373c73034df5e4406d7bbfd84de1486dfa3fa5614", func := "computus/computuslaw01.IntmathPeriod", spec := "intmathPeriod", unfollowed := true, recurses := true, apart := false, narrowed := true }
def IntmathPeriodUptoSaid : Prop := intmathPeriodUptoRow.holds Try.pinned (OpenSpec.upto intmathPeriodSpec)

/-- 'computuslaw01.IntmathClamp', WHERE WHAT IT READS IS OF BULK AT MOST 1048576: true; the input reads as it did. -/
def intmathClampUptoRow : OpenClaim := { program := "ytoankoongjiegaa", sum := "34654f9d7d7fac5ac31a25c373c73034df5e4406d7bbfd84de1486dfa3fa5614", func := "computus/computuslaw01.IntmathClamp", spec := "intmathClamp", unfollowed := true, recurses := true, apart := false, narrowed := true }
def IntmathClampUptoSaid : Prop := intmathClampUptoRow.holds Try.pinned (OpenSpec.upto intmathClampSpec)

/-- 'computuslaw01.IntmathMatchesReference', WHERE WHAT IT READS IS OF BULK AT MOST 1048576: true; the input reads as it did. -/
def intmathMatchesReferenceUptoRow : OpenClaim := { program := "ytoankoongjiegaa", sum := "34654f9d7d7fac5ac31a25c373c73034df5e4406d7bbfd84de1486dfa3fa5614", func := "computus/computuslaw01.IntmathMatchesReference", spec := "intmathMatchesReference", unfollowed := true, recurses := true, apart := false, narrowed := true }
def IntmathMatchesReferenceUptoSaid : Prop := intmathMatchesReferenceUptoRow.holds Try.pinned (OpenSpec.upto intmathMatchesReferenceSpec)

/-- 'computuslaw01.IntmathInverse', WHERE WHAT IT READS IS OF BULK AT MOST 1048576: true; the input reads as it did. -/
def intmathInverseUptoRow : OpenClaim := { program := "ytoankoongjiegaa", sum := "34654f9d7d7fac5ac31a25c373c73034df5e4406d7bbfd84de1486dfa3fa5614", func := "computus/computuslaw01.IntmathInverse", spec := "intmathInverse", unfollowed := true, recurses := true, apart := false, narrowed := true }
def IntmathInverseUptoSaid : Prop := intmathInverseUptoRow.holds Try.pinned (OpenSpec.upto intmathInverseSpec)

end Rows
end Go.Proofs.Ytoankoongjiegaa
