/-
  No cell of these rows narrows 'for every input' (looked for: loops, veiled, ifaces, maps, wideKeys, modest, calm, conditions, laid).
  DERIVED. THE GIVEN ROWS OF THIS SEAT. 6 by the template 'for every input the law returns true; each argument reads behind the call as it read before'; 0 by the template 'total and deterministic' (their statements: YtbaioodjcjbklaaTotals.lean).
  GIVEN WITH THE SEED: the statements are not yours to turn. If you find one false, say at which input.
  Laid BY PROGRAM, IN A SANDBOX (cutbox-rows.mjs): the forced cells as the released guide's own fill.sh prints them over the translation e8726e62355ac9d7… (all of the seat's roots in one cut). By AI agents, Wed Nov 11 2026. No macro, syntax, notation, axiom, sorry.
-/
import Derived.Test.YtbaioodjcjbklaaChecked
import GoSem.Claim
import GoSem.ClaimJoined
import GoSem.ClaimMapViews
import Derived.JoinedTies
import Derived.KernelRfl
namespace Go.Proofs.Ytbaioodjcjbklaa
/- THE CELL 'sum', in the pinned program and in every row, IS THE sha256 OF THE DUMP (.gsa) THAT YtbaioodjcjbklaaProg.lean LOADS. Nothing in Lean hashes anything: it is a label: what it is worth is what the hold of that sum in a sandbox is worth. -/
noncomputable def Try.pinned : Pinned := { name := "ytbaioodjcjbklaa", sum := "e8726e62355ac9d7184afad3d18a6123bcf045507d5e41c8ce88bd88aa47c22f", checked := Try.checked }
namespace Rows
def none {H : Type} : Left H := { results := [], args := [] }

/-- 'computuslaw15.MeanmoonOrder': WHATEVER THE INPUT: true; the input reads as it did. -/
def meanmoonOrderSpec : ChangeSpec := { name := "meanmoonOrder", fn := fun _ => fun
  | [d1, d2, d3] => { results := [.lit (.bool true)], args := [d1, d2, d3] }
  | _ => none }
def meanmoonOrderRow : OpenClaim := { program := "ytbaioodjcjbklaa", sum := "e8726e62355ac9d7184afad3d18a6123bcf045507d5e41c8ce88bd88aa47c22f", func := "computus/computuslaw15.MeanmoonOrder", spec := "meanmoonOrder", inPlace := ["math.Float64bits", "math.Float64frombits", "math.archFloor", "math.archTrunc", "math.RoundToEven"], unfollowed := true, recurses := true, apart := false }
def MeanmoonOrderSaid : Prop := meanmoonOrderRow.holds Try.pinned (OpenSpec.ofChange meanmoonOrderSpec)

/-- ITS FALSE NEIGHBOUR: 'it returns false'. Refute it at one input. -/
def meanmoonOrderWrong : ChangeSpec := { name := "meanmoonOrder", fn := fun _ => fun
  | [d1, d2, d3] => { results := [.lit (.bool false)], args := [d1, d2, d3] }
  | _ => none }
def MeanmoonOrderWrongFalsely : Prop := meanmoonOrderRow.holds Try.pinned (OpenSpec.ofChange meanmoonOrderWrong)

/-- 'computuslaw15.MeanmoonRound': WHATEVER THE INPUT: true; the input reads as it did. -/
def meanmoonRoundSpec : ChangeSpec := { name := "meanmoonRound", fn := fun _ => fun
  | [d1, d2] => { results := [.lit (.bool true)], args := [d1, d2] }
  | _ => none }
def meanmoonRoundRow : OpenClaim := { program := "ytbaioodjcjbklaa", sum := "e8726e62355ac9d7184afad3d18a6123bcf045507d5e41c8ce88bd88aa47c22f", func := "computus/computuslaw15.MeanmoonRound", spec := "meanmoonRound", inPlace := ["math.Float64bits", "math.Float64frombits", "math.archFloor", "math.archTrunc", "math.RoundToEven"], unfollowed := true, recurses := true, apart := false }
def MeanmoonRoundSaid : Prop := meanmoonRoundRow.holds Try.pinned (OpenSpec.ofChange meanmoonRoundSpec)

/-- ITS FALSE NEIGHBOUR: 'it returns false'. Refute it at one input. -/
def meanmoonRoundWrong : ChangeSpec := { name := "meanmoonRound", fn := fun _ => fun
  | [d1, d2] => { results := [.lit (.bool false)], args := [d1, d2] }
  | _ => none }
def MeanmoonRoundWrongFalsely : Prop := meanmoonRoundRow.holds Try.pinned (OpenSpec.ofChange meanmoonRoundWrong)

/-- 'computuslaw15.MeanmoonNegation': WHATEVER THE INPUT: true; the input reads as it did. -/
def meanmoonNegationSpec : ChangeSpec := { name := "meanmoonNegation", fn := fun _ => fun
  | [d] => { results := [.lit (.bool true)], args := [d] }
  | _ => none }
def meanmoonNegationRow : OpenClaim := { program := "ytbaioodjcjbklaa", sum := "e8726e62355ac9d7184afad3d18a6123bcf045507d5e41c8ce88bd88aa47c22f", func := "computus/computuslaw15.MeanmoonNegation", spec := "meanmoonNegation", inPlace := ["math.Float64bits", "math.Float64frombits", "math.archFloor", "math.archTrunc", "math.RoundToEven"], unfollowed := true, recurses := true, apart := false }
def MeanmoonNegationSaid : Prop := meanmoonNegationRow.holds Try.pinned (OpenSpec.ofChange meanmoonNegationSpec)

/-- ITS FALSE NEIGHBOUR: 'it returns false'. Refute it at one input. -/
def meanmoonNegationWrong : ChangeSpec := { name := "meanmoonNegation", fn := fun _ => fun
  | [d] => { results := [.lit (.bool false)], args := [d] }
  | _ => none }
def MeanmoonNegationWrongFalsely : Prop := meanmoonNegationRow.holds Try.pinned (OpenSpec.ofChange meanmoonNegationWrong)

/-- 'computuslaw15.MeanmoonLunations': WHATEVER THE INPUT: true; the input reads as it did. -/
def meanmoonLunationsSpec : ChangeSpec := { name := "meanmoonLunations", fn := fun _ => fun
  | [d] => { results := [.lit (.bool true)], args := [d] }
  | _ => none }
def meanmoonLunationsRow : OpenClaim := { program := "ytbaioodjcjbklaa", sum := "e8726e62355ac9d7184afad3d18a6123bcf045507d5e41c8ce88bd88aa47c22f", func := "computus/computuslaw15.MeanmoonLunations", spec := "meanmoonLunations", inPlace := ["math.Float64bits", "math.Float64frombits", "math.archFloor", "math.archTrunc", "math.RoundToEven"], unfollowed := true, recurses := true, apart := false }
def MeanmoonLunationsSaid : Prop := meanmoonLunationsRow.holds Try.pinned (OpenSpec.ofChange meanmoonLunationsSpec)

/-- ITS FALSE NEIGHBOUR: 'it returns false'. Refute it at one input. -/
def meanmoonLunationsWrong : ChangeSpec := { name := "meanmoonLunations", fn := fun _ => fun
  | [d] => { results := [.lit (.bool false)], args := [d] }
  | _ => none }
def MeanmoonLunationsWrongFalsely : Prop := meanmoonLunationsRow.holds Try.pinned (OpenSpec.ofChange meanmoonLunationsWrong)

/-- 'computuslaw15.MeanmoonPhase': WHATEVER THE INPUT: true; the input reads as it did. -/
def meanmoonPhaseSpec : ChangeSpec := { name := "meanmoonPhase", fn := fun _ => fun
  | [d] => { results := [.lit (.bool true)], args := [d] }
  | _ => none }
def meanmoonPhaseRow : OpenClaim := { program := "ytbaioodjcjbklaa", sum := "e8726e62355ac9d7184afad3d18a6123bcf045507d5e41c8ce88bd88aa47c22f", func := "computus/computuslaw15.MeanmoonPhase", spec := "meanmoonPhase", inPlace := ["math.Float64bits", "math.Float64frombits", "math.archFloor", "math.archTrunc", "math.RoundToEven"], unfollowed := true, recurses := true, apart := false }
def MeanmoonPhaseSaid : Prop := meanmoonPhaseRow.holds Try.pinned (OpenSpec.ofChange meanmoonPhaseSpec)

/-- ITS FALSE NEIGHBOUR: 'it returns false'. Refute it at one input. -/
def meanmoonPhaseWrong : ChangeSpec := { name := "meanmoonPhase", fn := fun _ => fun
  | [d] => { results := [.lit (.bool false)], args := [d] }
  | _ => none }
def MeanmoonPhaseWrongFalsely : Prop := meanmoonPhaseRow.holds Try.pinned (OpenSpec.ofChange meanmoonPhaseWrong)

/-- 'computuslaw15.MeanmoonMatchesReference': WHATEVER THE INPUT: true; the input reads as it did. -/
def meanmoonMatchesReferenceSpec : ChangeSpec := { name := "meanmoonMatchesReference", fn := fun _ => fun
  | [d1, d2, d3] => { results := [.lit (.bool true)], args := [d1, d2, d3] }
  | _ => none }
def meanmoonMatchesReferenceRow : OpenClaim := { program := "ytbaioodjcjbklaa", sum := "e8726e62355ac9d7184afad3d18a6123bcf045507d5e41c8ce88bd88aa47c22f", func := "computus/computuslaw15.MeanmoonMatchesReference", spec := "meanmoonMatchesReference", inPlace := ["math.Float64bits", "math.Float64frombits", "math.archFloor", "math.archTrunc", "math.RoundToEven"], unfollowed := true, recurses := true, apart := false }
def MeanmoonMatchesReferenceSaid : Prop := meanmoonMatchesReferenceRow.holds Try.pinned (OpenSpec.ofChange meanmoonMatchesReferenceSpec)

/-- ITS FALSE NEIGHBOUR: 'it returns false'. Refute it at one input. -/
def meanmoonMatchesReferenceWrong : ChangeSpec := { name := "meanmoonMatchesReference", fn := fun _ => fun
  | [d1, d2, d3] => { results := [.lit (.bool false)], args := [d1, d2, d3] }
  | _ => none }
def MeanmoonMatchesReferenceWrongFalsely : Prop := meanmoonMatchesReferenceRow.holds Try.pinned (OpenSpec.ofChange meanmoonMatchesReferenceWrong)

/- THE SECOND FORM. 'bulk': how many values and letters a reading holds, each counted each time it is reached (what is shared counts as often as it is met; a slice's spare places count too). A statement '..UptoSaid' is the law's where the arguments, and the package variables that the reading takes, are together of bulk at most 1048576: NARROWER than '..Said'. Prove '..Said' where nothing that the law and all that it calls make is longer than what came in: it says more and counts as full. Else prove '..UptoSaid'. A law counts once. -/
mutual
def uptoBulk {H : Type} : DataW H → Nat
  | .lit (.string bytes) => bytes.length + 1
  | .lit _ => 1
  | .nil => 1
  | .ptr d => uptoBulk d + 1
  | .slice elems spare => uptoBulkAll elems + uptoBulkAll spare + 1
  | .agg parts => uptoBulkAll parts + 1
  | .iface _ d => uptoBulk d + 1
  | .map entries => uptoBulkEntries entries + 1
  | .held _ => 1
def uptoBulkAll {H : Type} : List (DataW H) → Nat
  | [] => 0
  | d :: r => uptoBulk d + uptoBulkAll r
def uptoBulkEntries {H : Type} : List (Lit × DataW H) → Nat
  | [] => 0
  | x :: r => uptoBulkEntry x + uptoBulkEntries r
def uptoBulkEntry {H : Type} : Lit × DataW H → Nat
  | (.string bytes, d) => bytes.length + uptoBulk d + 1
  | (_, d) => uptoBulk d + 1
 end
def uptoSmall : (H : Type) → List (DataW H) → Bool := fun _ ds => decide (uptoBulkAll ds ≤ 1048576)
def OpenSpec.upto (s : _root_.Go.ChangeSpec) : _root_.Go.OpenSpec := { _root_.Go.OpenSpec.ofChange s with cond := some uptoSmall }

/-- 'computuslaw15.MeanmoonOrder', WHERE WHAT IT READS IS OF BULK AT MOST 1048576: true; the input reads as it did. -/
def meanmoonOrderUptoRow : OpenClaim := { program := "ytbaioodjcjbklaa", sum := "e8726e62355ac9d7184afad3d18a6123bcf045507d5e41c8ce88bd88aa47c22f", func := "computus/computuslaw15.MeanmoonOrder", spec := "meanmoonOrder", inPlace := ["math.Float64bits", "math.Float64frombits", "math.archFloor", "math.archTrunc", "math.RoundToEven"], unfollowed := true, recurses := true, apart := false, narrowed := true }
def MeanmoonOrderUptoSaid : Prop := meanmoonOrderUptoRow.holds Try.pinned (OpenSpec.upto meanmoonOrderSpec)

/-- 'computuslaw15.MeanmoonRound', WHERE WHAT IT READS IS OF BULK AT MOST 1048576: true; the input reads as it did. -/
def meanmoonRoundUptoRow : OpenClaim := { program := "ytbaioodjcjbklaa", sum := "e8726e62355ac9d7184afad3d18a6123bcf045507d5e41c8ce88bd88aa47c22f", func := "computus/computuslaw15.MeanmoonRound", spec := "meanmoonRound", inPlace := ["math.Float64bits", "math.Float64frombits", "math.archFloor", "math.archTrunc", "math.RoundToEven"], unfollowed := true, recurses := true, apart := false, narrowed := true }
def MeanmoonRoundUptoSaid : Prop := meanmoonRoundUptoRow.holds Try.pinned (OpenSpec.upto meanmoonRoundSpec)

/-- 'computuslaw15.MeanmoonNegation', WHERE WHAT IT READS IS OF BULK AT MOST 1048576: true; the input reads as it did. -/
def meanmoonNegationUptoRow : OpenClaim := { program := "ytbaioodjcjbklaa", sum := "e8726e62355ac9d7184afad3d18a6123bcf045507d5e41c8ce88bd88aa47c22f", func := "computus/computuslaw15.MeanmoonNegation", spec := "meanmoonNegation", inPlace := ["math.Float64bits", "math.Float64frombits", "math.archFloor", "math.archTrunc", "math.RoundToEven"], unfollowed := true, recurses := true, apart := false, narrowed := true }
def MeanmoonNegationUptoSaid : Prop := meanmoonNegationUptoRow.holds Try.pinned (OpenSpec.upto meanmoonNegationSpec)

/-- 'computuslaw15.MeanmoonLunations', WHERE WHAT IT READS IS OF BULK AT MOST 1048576: true; the input reads as it did. -/
def meanmoonLunationsUptoRow : OpenClaim := { program := "ytbaioodjcjbklaa", sum := "e8726e62355ac9d7184afad3d18a6123bcf045507d5e41c8ce88bd88aa47c22f", func := "computus/computuslaw15.MeanmoonLunations", spec := "meanmoonLunations", inPlace := ["math.Float64bits", "math.Float64frombits", "math.archFloor", "math.archTrunc", "math.RoundToEven"], unfollowed := true, recurses := true, apart := false, narrowed := true }
def MeanmoonLunationsUptoSaid : Prop := meanmoonLunationsUptoRow.holds Try.pinned (OpenSpec.upto meanmoonLunationsSpec)

/-- 'computuslaw15.MeanmoonPhase', WHERE WHAT IT READS IS OF BULK AT MOST 1048576: true; the input reads as it did. -/
def meanmoonPhaseUptoRow : OpenClaim := { program := "ytbaioodjcjbklaa", sum := "e8726e62355ac9d7184afad3d18a6123bcf045507d5e41c8ce88bd88aa47c22f", func := "computus/computuslaw15.MeanmoonPhase", spec := "meanmoonPhase", inPlace := ["math.Float64bits", "math.Float64frombits", "math.archFloor", "math.archTrunc", "math.RoundToEven"], unfollowed := true, recurses := true, apart := false, narrowed := true }
def MeanmoonPhaseUptoSaid : Prop := meanmoonPhaseUptoRow.holds Try.pinned (OpenSpec.upto meanmoonPhaseSpec)

/-- 'computuslaw15.MeanmoonMatchesReference', WHERE WHAT IT READS IS OF BULK AT MOST 1048576: true; the input reads as it did. -/
def meanmoonMatchesReferenceUptoRow : OpenClaim := { program := "ytbaioodjcjbklaa", sum := "e8726e62355ac9d7184afad3d18a6123bcf045507d5e41c8ce88bd88aa47c22f", func := "computus/computuslaw15.MeanmoonMatchesReference", spec := "meanmoonMatchesReference", inPlace := ["math.Float64bits", "math.Float64frombits", "math.archFloor", "math.archTrunc", "math.RoundToEven"], unfollowed := true, recurses := true, apart := false, narrowed := true }
def MeanmoonMatchesReferenceUptoSaid : Prop := meanmoonMatchesReferenceUptoRow.holds Try.pinned (OpenSpec.upto meanmoonMatchesReferenceSpec)

end Rows
end Go.Proofs.Ytbaioodjcjbklaa
