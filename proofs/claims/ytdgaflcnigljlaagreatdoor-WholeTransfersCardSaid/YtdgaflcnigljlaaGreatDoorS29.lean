/-
  Contracts and plain facts for the laws on the whole program: the parts below say each what they are. No further condition.
-/
import Derived.Test.YtdgaflcnigljlaaGreatDoorS28
import Derived.Laws.StructEq
set_option linter.unusedSimpArgs false
/-
  Equality of dates as the program reckons it. No further condition.
-/
namespace Go.Proofs.YtdgaflcnigljlaaGreatDoor
open Go.RowKit Go.Proofs Go.Proofs.YtdgaflcnigljlaaGreatDoorW.PrintWords
set_option linter.unusedVariables false
theorem fields39 : ((Tryz.prog).fieldsOf 39).toList = [{ name := "Year", type := 3, offset := 0, embedded := false, tag := "", pkgPath := "", byteOffset := 0 }, { name := "Month", type := 3, offset := 1, embedded := false, tag := "", pkgPath := "", byteOffset := 8 }, { name := "Day", type := 3, offset := 2, embedded := false, tag := "", pkgPath := "", byteOffset := 16 }] := by
  simp only [Program.fieldsOf, Tryz.underlying39]
theorem under39 : (Tryz.prog).underlying 39 = some (.struct ((Tryz.prog).fieldsOf 39)) := by
  simp only [Program.fieldsOf, Tryz.underlying39]
theorem date_equal (a b c x y z : Int) (w : World) : (Op.equal 39 (.agg #[.int .i64 a, .int .i64 b, .int .i64 c]) (.agg #[.int .i64 x, .int .i64 y, .int .i64 z])).run Tryz.prog w = .ok ((a == x) && ((b == y) && (c == z))) w := by
  have hp : (Tryz.prog).stoodInHeld 39 = false := by kernel_rfl
  unfold Op.equal
  rw [show Op.maxDepth = 9998 + 1 + 1 from rfl, run_equalIn_struct w (9998 + 1) 39 _ _ under39 hp, fields39]
  have h3 : ∀ (a b : Int), (Op.equalIn (9998 + 1) 3 (.int .i64 a) (.int .i64 b)).run Tryz.prog w = .ok (a == b) w := fun a b => run_equalIn_int w 9998 3 .i64 .i64 a b Tryz.underlying3
  simp only [Op.eqFields]
  simp [go_sem, Tryz.underlying3]
  by_cases h1 : a = x <;> by_cases h2 : b = y <;> by_cases h4 : c = z <;> simp [h1, h2, h4]
/-- Are two dates the same? -/
def dEq (a b c x y z : Int) : Bool := (a == x) && ((b == y) && (c == z))
theorem dEq_iff {a b c x y z : Int} : dEq a b c x y z = true ↔ a = x ∧ b = y ∧ c = z := by unfold dEq; simp
theorem dEq_no {a b c x y z : Int} (h : ¬ (a = x ∧ b = y ∧ c = z)) : dEq a b c x y z = false := by
  cases e : dEq a b c x y z with
  | false => rfl
  | true => exact absurd (dEq_iff.1 e) h
theorem date_eql (a b c x y z : Int) (w : World) : (binOp .eql 39 (.agg #[.int .i64 a, .int .i64 b, .int .i64 c]) (.agg #[.int .i64 x, .int .i64 y, .int .i64 z])).run Tryz.prog w = .ok (.bool (dEq a b c x y z)) w := by
  show (do pure (.bool (← Op.equal 39 (.agg #[.int .i64 a, .int .i64 b, .int .i64 c]) (.agg #[.int .i64 x, .int .i64 y, .int .i64 z]))) : Sem Value).run Tryz.prog w = _
  simp [date_equal]
  rfl
theorem date_neq (a b c x y z : Int) (w : World) : (binOp .neq 39 (.agg #[.int .i64 a, .int .i64 b, .int .i64 c]) (.agg #[.int .i64 x, .int .i64 y, .int .i64 z])).run Tryz.prog w = .ok (.bool (!dEq a b c x y z)) w := by
  show (do pure (.bool (!(← Op.equal 39 (.agg #[.int .i64 a, .int .i64 b, .int .i64 c]) (.agg #[.int .i64 x, .int .i64 y, .int .i64 z])))) : Sem Value).run Tryz.prog w = _
  simp [date_equal, dEq]
end Go.Proofs.YtdgaflcnigljlaaGreatDoor
