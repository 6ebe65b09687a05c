/-
  Contracts of the small functions that package meanmoon calls (bits, sign, absolute value, classes of words), for all double-precision words.
-/
import Derived.Test.YtbaioodjcjbklaaProg
import Derived.Test.YtbaioodjcjbklaaFl2
import Derived.WalkKit
import Derived.BigQuiet
import Derived.Deep.QuietTactic
import Derived.Deep.DeepFit
import Derived.WalkLawsBesides
import Derived.Lib.Hide
import Derived.LoopTactic
namespace Go.Proofs.Ytbaioodjcjbklaa
open Go.RowKit
set_option linter.unusedVariables false
@[go_sem] theorem run10 (n : Int) (w : World) : (callFunc 10 #[.int .u64 n]).run Try.prog w = .ok (.value (.float .f64 n.toNat)) w := by
  rw [run_callFunc_extern Try.func10 (by kernel_rfl) (by kernel_rfl) (by kernel_rfl) (e := Extern.MathFloatBits.float64frombits) (by kernel_rfl)]
  rfl
/-- a word as an integer (behind a name: the walk must not count it down) -/
@[irreducible] def bitsOf (b : Nat) : Int := (b : Int)
theorem bitsOf_eq (b : Nat) : bitsOf b = (b : Int) := by unfold bitsOf; rfl
@[go_sem] theorem run24 (b : Nat) (w : World) : (callFunc 24 #[.float .f64 b]).run Try.prog w = .ok (.value (.int .u64 (bitsOf b))) w := by
  rw [bitsOf_eq]
  rw [run_callFunc_extern Try.func24 (by kernel_rfl) (by kernel_rfl) (by kernel_rfl) (e := Extern.MathFloatBits.float64bits) (by kernel_rfl)]
  rfl
def vInt (way : Ieee.Toward) (x : Nat) : Nat := Ieee.double.write ((Ieee.double.read x).integral way)
theorem integral_alt (name : String) (way : Ieee.Toward) (x : Nat) : ∃ A, Extern.MathFloor.toIntegral name way #[.float .f64 x] = Extern.MathFloor.toIntegral.match_1 (fun _ => Sem Value) (FloatKind.f64.decode x) A (fun d => pure (Value.float .f64 (FloatKind.f64.encode (d.integral way)))) := ⟨_, rfl⟩
theorem run_integral {name : String} {way : Ieee.Toward} {x : Nat} (hx : Proper x) (w : World) : (Extern.MathFloor.toIntegral name way #[.float .f64 x]).run Try.prog w = .ok (.float .f64 (vInt way x)) w := by
  obtain ⟨A, h⟩ := integral_alt name way x
  unfold vInt
  rcases read_proper hx with ⟨m, u, e1, _, _, _⟩ | ⟨e1, _⟩
  · rw [h, show FloatKind.f64.decode x = _ from e1, e1]; rfl
  · rw [h, show FloatKind.f64.decode x = _ from e1, e1]; rfl
theorem run47 {x : Nat} (hx : Proper x) (w : World) : (callFunc 47 #[.float .f64 x]).run Try.prog w = .ok (.value (.float .f64 (vInt .down x))) w := by
  rw [run_callFunc_extern Try.func47 (by kernel_rfl) (by kernel_rfl) (by kernel_rfl) (e := Extern.MathFloor.toIntegral "math.archFloor" .down) (by kernel_rfl), run_integral hx]
  rfl
theorem run36 {x : Nat} (hx : Proper x) (w : World) : (callFunc 36 #[.float .f64 x]).run Try.prog w = .ok (.value (.float .f64 (vInt .even x))) w := by
  rw [run_callFunc_extern Try.func36 (by kernel_rfl) (by kernel_rfl) (by kernel_rfl) (e := Extern.MathFloor.toIntegral "math.RoundToEven" .even) (by kernel_rfl), run_integral hx]
  rfl

theorem ret_int {k : IntKind} {a b : Int} (h : a = b) : Ending.returned (.int k a) = .returned (.int k b) := by rw [h]
theorem ret_bool {a b : Bool} (h : a = b) : Ending.returned (.bool a) = .returned (.bool b) := by rw [h]
theorem ret_float {a b : Nat} (h : a = b) : Ending.returned (.float .f64 a) = .returned (.float .f64 b) := by rw [h]

def nanB (x : Nat) : Bool := decide (9218868437227405312 < rungOf x)
def infB (x : Nat) : Bool := decide (rungOf x = 9218868437227405312)
theorem fmt64 : FloatKind.f64.format = Ieee.double := rfl
theorem nan_test (x : Nat) : (FloatKind.f64.format.order x x != some Ordering.eq) = nanB x := by
  rw [fmt64]; unfold nanB
  by_cases h : 9218868437227405312 < rungOf x
  · rw [order_nanl h]; simp [h]
  · rw [order_nn (by omega) (by omega)]; simp [h]
theorem abs_bits {x : Nat} (hx : x < 18446744073709551616) : (bits BinOp.andNot IntKind.u64 (bitsOf x) 9223372036854775808).toNat = rungOf x := by
  rw [bitsOf_eq]
  have h := u64_andNot_nat x 9223372036854775808 hx (by omega)
  have e : x &&& (18446744073709551615 - 9223372036854775808) = x % 9223372036854775808 := Nat.and_two_pow_sub_one_eq_mod x 63
  rw [e] at h
  have h' : bits BinOp.andNot IntKind.u64 (x : Int) 9223372036854775808 = ((x % 9223372036854775808 : Nat) : Int) := h
  rw [h']; unfold rungOf; omega

set_option maxHeartbeats 400000 in
theorem isnan_c (x : Nat) (w : World) : Calls Try.prog 19 #[.float .f64 x] w fun e w' => e = .returned (.bool (nanB x)) ∧ w = w' := by
  have H := Lib.hid (nan_test x)
  go_enter Try.func19, Try.ntmps19
  go_wp2
  go_ret
  exact ⟨ret_bool H.out, rfl⟩
set_option maxHeartbeats 400000 in
theorem abs_c (x : Nat) (w : World) (hx : x < 18446744073709551616) : Calls Try.prog 35 #[.float .f64 x] w fun e w' => e = .returned (.float .f64 (rungOf x)) ∧ w = w' := by
  have H := Lib.hid (abs_bits hx)
  go_enter Try.func35, Try.ntmps35
  go_wp2
  go_ret
  exact ⟨ret_float H.out, rfl⟩
theorem isNeg_iff {x : Nat} (hx : x < 18446744073709551616) : isNeg x = decide (9223372036854775808 ≤ x) := by
  unfold isNeg
  rw [Bool.eq_iff_iff, beq_iff_eq, decide_eq_true_eq]; omega
set_option maxHeartbeats 400000 in
theorem signbit_c (x : Nat) (w : World) (hx : x < 18446744073709551616) : Calls Try.prog 20 #[.float .f64 x] w fun e w' => e = .returned (.bool (isNeg x)) ∧ w = w' := by
  have H := Lib.hid (isNeg_iff hx)
  go_enter Try.func20, Try.ntmps20
  go_wp2
  go_ret
  exact ⟨ret_bool (by rw [H.out, decide_eq_decide, bitsOf_eq]; unfold wrap64; omega), rfl⟩
theorem rung_small {x : Nat} (h : x < 9223372036854775808) : isNeg x = false ∧ rungOf x = x := by
  unfold isNeg rungOf
  refine ⟨?_, by omega⟩
  rw [show x / 9223372036854775808 % 2 = 0 by omega]; rfl
theorem sval_pos {x : Nat} (h : x < 9223372036854775808) : sval x = (V x : Int) := by
  obtain ⟨a, b⟩ := rung_small h
  unfold sval; rw [a, b]; rfl
theorem inf_test (x : Nat) : (FloatKind.f64.format.order (rungOf x) 9218868437227405311 == some Ordering.gt) = infB x := by
  rw [fmt64]; unfold infB
  have hl : rungOf x < 9223372036854775808 := Nat.mod_lt _ (by omega)
  obtain ⟨_, b⟩ := rung_small hl
  by_cases h : 9218868437227405312 < rungOf x
  · rw [order_nanl (by rw [b]; exact h)]
    rw [show decide (rungOf x = 9218868437227405312) = false by simp; omega]; rfl
  · rw [order_nn (by rw [b]; omega) (by decide), sval_pos hl, sval_pos (by omega)]
    by_cases h2 : rungOf x = 9218868437227405312
    · have := V_lt (show 9218868437227405311 < rungOf x by omega)
      rw [Int.compare_eq_gt.2 (by omega)]; simp [h2]
    · have := V_le (show rungOf x ≤ 9218868437227405311 by omega)
      rw [show decide (rungOf x = 9218868437227405312) = false by simpa using h2]
      rw [Bool.eq_false_iff, ne_eq, beq_iff_eq, Option.some.injEq, Int.compare_eq_gt]; omega
set_option maxHeartbeats 400000 in
theorem isinf_c (x : Nat) (w : World) (hx : x < 18446744073709551616) : Calls Try.prog 39 #[.float .f64 x, .int .i64 0] w fun e w' => e = .returned (.bool (infB x)) ∧ w = w' := by
  have H := Lib.hid (inf_test x)
  go_enter Try.func39, Try.ntmps39
  go_wp2_with (go_at_call 35; refine (abs_c _ _ hx).mono ?_; rintro e w' ⟨rfl, rfl⟩)
  go_ret
  exact ⟨ret_bool H.out, rfl⟩
set_option maxHeartbeats 400000 in
theorem floor_c (x : Nat) (w : World) (hx : Proper x) : Calls Try.prog 43 #[.float .f64 x] w fun e w' => e = .returned (.float .f64 (vInt .down x)) ∧ w = w' := by
  have H := run47 hx
  go_enter Try.func43, Try.ntmps43
  go_wp2
  go_ret
  exact ⟨rfl, rfl⟩
/-- the key of the total order -/
def kkey (x : Nat) : Nat := if x < 9223372036854775808 then x + 9223372036854775808 else 18446744073709551615 - x
theorem key_hi {x : Nat} (hx : x < 18446744073709551616) (h : 9223372036854775808 ≤ bitsOf x) : bits BinOp.xor IntKind.u64 IntKind.u64.max (bitsOf x) = ((kkey x : Nat) : Int) := by
  have h1 : 9223372036854775808 ≤ x := by rw [bitsOf_eq] at h; omega
  rw [bitsOf_eq]
  have e := u64_xor_nat 18446744073709551615 x (by omega) hx
  have e2 : 18446744073709551615 ^^^ x = 18446744073709551615 - x := by
    apply Nat.eq_of_testBit_eq
    intro i
    rw [Nat.testBit_xor, show 18446744073709551615 = 2 ^ 64 - 1 from rfl, Nat.testBit_two_pow_sub_one, show 2 ^ 64 - 1 - x = 2 ^ 64 - (x + 1) from by omega, Nat.testBit_two_pow_sub_succ (by exact hx)]
    by_cases hi : i < 64
    · simp [hi]
    · have : x.testBit i = false := Nat.testBit_lt_two_pow (Nat.lt_of_lt_of_le (show x < 2 ^ 64 from hx) (Nat.pow_le_pow_right (by omega) (by omega)))
      simp [hi, this]
  rw [e2] at e
  unfold kkey; rw [if_neg (by omega)]
  exact e
theorem key_lo {x : Nat} (h : bitsOf x < 9223372036854775808) : bits BinOp.or IntKind.u64 (bitsOf x) 9223372036854775808 = ((kkey x : Nat) : Int) := by
  have h1 : x < 9223372036854775808 := by rw [bitsOf_eq] at h; omega
  rw [bitsOf_eq]
  have e := u64_or_nat x 9223372036854775808 (by omega) (by omega)
  have e2 : x ||| 9223372036854775808 = x + 9223372036854775808 := by
    rw [Nat.or_comm, Nat.add_comm]
    exact (Nat.two_pow_add_eq_or_of_lt (i := 63) h1 1).symm
  rw [e2] at e
  unfold kkey; rw [if_pos (by omega)]
  exact e
set_option maxRecDepth 100000 in
set_option maxHeartbeats 400000 in
theorem key_c (x : Nat) (w : World) (hx : x < 18446744073709551616) : Calls Try.prog 34 #[.float .f64 x] w fun e w' => e = .returned (.int .u64 (kkey x : Nat)) ∧ w = w' := by
  have HX := Lib.hid hx
  clear hx
  go_enter Try.func34, Try.ntmps34
  go_wp2
  all_goals go_ret
  · exact ⟨ret_int (key_hi HX.out (by assumption)), rfl⟩
  · exact ⟨ret_int (key_lo (by assumption)), rfl⟩
/-- the total order -/
def befB (x y : Nat) : Bool := decide (kkey x < kkey y)
theorem bef_of (x y : Nat) : decide (kkey x < kkey y) = befB x y := by
  rfl
set_option maxHeartbeats 400000 in
theorem before_c (x y : Nat) (w : World) (hx : Hid (x < 18446744073709551616)) (hy : Hid (y < 18446744073709551616)) : Calls Try.prog 11 #[.float .f64 x, .float .f64 y] w fun e w' => e = .returned (.bool (befB x y)) ∧ w = w' := by
  have H := Lib.hid (bef_of x y)
  go_enter Try.func11, Try.ntmps11
  go_wp2_with (go_at_call 34; refine (key_c _ _ (by first | exact hx.out | exact hy.out)).mono ?_; rintro e w' ⟨rfl, rfl⟩)
  all_goals go_ret
  all_goals exact ⟨ret_bool H.out, rfl⟩
end Go.Proofs.Ytbaioodjcjbklaa
