/-
  The walk of the law MeanmoonNegation: a number and its negation.
-/
import Derived.Test.YtbaioodjcjbklaaBase7
namespace Go.Proofs.Ytbaioodjcjbklaa
open Go.RowKit
/-- the negation of a word -/
def neg (x : Nat) : Nat := if x < 9223372036854775808 then x + 9223372036854775808 else x - 9223372036854775808
theorem neg_lt {x : Nat} (h : x < 18446744073709551616) : neg x < 18446744073709551616 := by unfold neg; split <;> omega
theorem neg_rung (x : Nat) (h : x < 18446744073709551616) : rungOf (neg x) = rungOf x := by unfold neg rungOf; split <;> omega
theorem neg_neg (x : Nat) (h : x < 18446744073709551616) : isNeg (neg x) = !isNeg x := by
  rw [isNeg_iff (neg_lt h), isNeg_iff h, ← decide_not, decide_eq_decide]; unfold neg; split <;> omega
theorem xor_top {x : Nat} (h : x < 9223372036854775808) : x ^^^ 9223372036854775808 = x + 9223372036854775808 := by
  have e : x + 9223372036854775808 = 2 ^ 63 * 1 + x := by rw [Nat.mul_one, Nat.add_comm]
  rw [e]
  apply Nat.eq_of_testBit_eq
  intro i
  rw [Nat.testBit_xor, Nat.testBit_two_pow_mul_add _ (by exact h), show 9223372036854775808 = 2 ^ 63 from rfl, Nat.testBit_two_pow]
  by_cases hi : i < 63
  · rw [if_pos hi, show decide (63 = i) = false by simp; omega, Bool.xor_false]
  · have : x.testBit i = false := Nat.testBit_lt_two_pow (Nat.lt_of_lt_of_le (show x < 2 ^ 63 from h) (Nat.pow_le_pow_right (by omega) (by omega)))
    rw [if_neg hi, this, Bool.false_xor]
    by_cases h0 : i = 63
    · subst h0; rfl
    · obtain ⟨k, hk⟩ : ∃ k, i - 63 = k + 1 := ⟨i - 63 - 1, by omega⟩
      rw [hk, show decide (63 = i) = false by simp; omega, Nat.testBit_succ]
      simp
theorem neg_bits {x : Nat} (h : x < 18446744073709551616) : bits BinOp.xor IntKind.u64 (bitsOf x) 9223372036854775808 = bitsOf (neg x) := by
  rw [bitsOf_eq, bitsOf_eq]
  have e := u64_xor_nat x 9223372036854775808 h (by omega)
  have e2 : x ^^^ 9223372036854775808 = neg x := by
    unfold neg
    by_cases h1 : x < 9223372036854775808
    · rw [if_pos h1, xor_top h1]
    · rw [if_neg h1]
      have h2 := xor_top (x := x - 9223372036854775808) (by omega)
      rw [show x - 9223372036854775808 + 9223372036854775808 = x by omega] at h2
      rw [← h2, Nat.xor_assoc, Nat.xor_self, Nat.xor_zero]
      omega
  rw [e2] at e
  exact e
theorem cutq_even_sign (n d : Nat) : cutq .even true n d = cutq .even false n d := rfl
theorem neg_rint {x : Nat} (h : x < 18446744073709551616) : (if okR x then rint x else 0) = -(if okR (neg x) then rint (neg x) else 0) ∧ okR (neg x) = okR x := by
  have e : okR (neg x) = okR x := by unfold okR; rw [neg_rung x h]
  refine ⟨?_, e⟩
  rw [e]
  cases okR x
  · simp
  · simp only [if_true]
    unfold rint rmag dsign
    rw [neg_rung x h, neg_neg x h]
    cases isNeg x
    · simp [cutq_even_sign]
    · simp [cutq_even_sign]
theorem neg_cls {x : Nat} (h : x < 18446744073709551616) : cls (neg x) = cls x := by
  unfold cls nanB infB; rw [neg_rung x h]
theorem neg_bef {x : Nat} (h : x < 18446744073709551616) : befB x (neg x) = decide (9223372036854775808 ≤ bitsOf x) ∧ befB (neg x) x = decide (bitsOf x < 9223372036854775808) := by
  rw [bitsOf_eq]
  unfold befB kkey neg
  rw [decide_eq_decide, decide_eq_decide]
  constructor <;> split <;> split <;> omega
theorem rint_bd (x : Nat) : -4611686018427387904 ≤ (if okR x then rint x else 0) ∧ (if okR x then rint x else 0) ≤ 4611686018427387904 := by
  rcases h : okR x with _ | _
  · simp
  · simp only [if_true]
    unfold okR at h
    rw [decide_eq_true_eq] at h
    have h1 := V_lt h
    rw [V_62] at h1
    have h2 : V (rungOf x) / U < 4611686018427387904 := (Nat.div_lt_iff_lt_mul U_pos).2 h1
    have h3 := cutq_le .even (isNeg x) (V (rungOf x)) U
    unfold rint rmag dsign
    generalize cutq .even (isNeg x) (V (rungOf x)) U = c at *
    generalize V (rungOf x) / U = d at *
    split <;> omega
theorem neg_laws (a : Nat) (ha : a < 18446744073709551616) : ∃ (b : Nat) (r : Int) (o : Bool) (c : Nat) (t : Bool), bits BinOp.xor IntKind.u64 (bitsOf a) 9223372036854775808 = bitsOf b ∧ wrap64 (-r) = -r ∧
    (decide (9223372036854775808 ≤ bitsOf a) = t) ∧ (decide (bitsOf a < 9223372036854775808) = !t) ∧
    (∀ w, Calls Try.prog 12 #[.float .f64 a] w fun e w' => e = .returned (.tuple #[.int .i64 (-r), .bool o]) ∧ w = w') ∧
    (∀ w, Calls Try.prog 12 #[.float .f64 b] w fun e w' => e = .returned (.tuple #[.int .i64 r, .bool o]) ∧ w = w') ∧
    (∀ w, Calls Try.prog 13 #[.float .f64 a] w fun e w' => e = .returned (.int .i64 (c : Nat)) ∧ Below w.heap.size w w') ∧
    (∀ w, Calls Try.prog 13 #[.float .f64 b] w fun e w' => e = .returned (.int .i64 (c : Nat)) ∧ Below w.heap.size w w') ∧
    (∀ w, Calls Try.prog 11 #[.float .f64 a, .float .f64 b] w fun e w' => e = .returned (.bool t) ∧ w = w') ∧
    (∀ w, Calls Try.prog 11 #[.float .f64 b, .float .f64 a] w fun e w' => e = .returned (.bool (!t)) ∧ w = w') := by
  obtain ⟨hr, ho⟩ := neg_rint ha
  obtain ⟨f1, f2⟩ := neg_bef ha
  have hb := rint_bd (neg a)
  have ht : decide (bitsOf a < 9223372036854775808) = !decide (9223372036854775808 ≤ bitsOf a) := by rw [← decide_not, decide_eq_decide, bitsOf_eq]; omega
  refine ⟨neg a, (if okR (neg a) then rint (neg a) else 0), okR a, cls a, decide (9223372036854775808 ≤ bitsOf a), neg_bits ha, ?_, rfl, ht, ?_, ?_, ?_, ?_, ?_, ?_⟩
  · generalize (if okR (neg a) then rint (neg a) else 0) = r at *
    unfold wrap64; omega
  · intro w; rw [← hr]; exact round_c a w ha
  · intro w; have := round_c (neg a) w (neg_lt ha); rw [ho] at this ⊢; exact this
  · intro w; exact class_c a w ha
  · intro w; rw [← neg_cls ha]; exact class_c _ w (neg_lt ha)
  · intro w; rw [← f1]; exact before_c _ _ w (Lib.hid ha) (Lib.hid (neg_lt ha))
  · intro w; rw [← ht, ← f2]; exact before_c _ _ w (Lib.hid (neg_lt ha)) (Lib.hid ha)
set_option maxRecDepth 100000 in
set_option maxHeartbeats 1000000 in
theorem neg_w (a : Nat) (w : World) (ha : a < 18446744073709551616) : Calls Try.prog 5 #[.int .u64 (bitsOf a)] w fun e w' => e = .returned (.bool true) ∧ Below w.heap.size w w' := by
  obtain ⟨b, r, o, c, t, hb, hw, t1, t2, R1, R2, C1, C2, B1, B2⟩ := neg_laws a ha
  have HR1 := Lib.hid R1
  have HR2 := Lib.hid R2
  have HC1 := Lib.hid C1
  have HC2 := Lib.hid C2
  have HB1 := Lib.hid B1
  have HB2 := Lib.hid B2
  clear ha R1 R2 C1 C2 B1 B2
  cases t
  all_goals
    simp only [decide_eq_false_iff_not, decide_eq_true_eq, Bool.not_false, Bool.not_true] at t1 t2
    first | (have T1 := eq_false (Int.not_le.2 t2)) | (have T1 := eq_false (Int.not_lt.2 t1))
    go_enter Try.func5, Try.ntmps5
    go_wp2_with first
      | (go_at_call 9; refine (awake_c _).mono ?_; rintro e w1 ⟨rfl, hB⟩)
      | (go_at_call 12; with_reducible refine (HR1.out _).mono ?_; rintro e w2 ⟨rfl, rfl⟩)
      | (go_at_call 12; with_reducible refine (HR2.out _).mono ?_; rintro e w2 ⟨rfl, rfl⟩)
      | (go_at_call 13; with_reducible refine (HC1.out _).mono ?_; rintro e w2 ⟨rfl, hC⟩)
      | (go_at_call 13; with_reducible refine (HC2.out _).mono ?_; rintro e w2 ⟨rfl, hD⟩)
      | (go_at_call 11; with_reducible refine (HB1.out _).mono ?_; rintro e w2 ⟨rfl, rfl⟩)
      | (go_at_call 11; with_reducible refine (HB2.out _).mono ?_; rintro e w2 ⟨rfl, rfl⟩)
      | go_in
  all_goals first
    | (go_ret; exact ⟨rfl, chain (chain hB hC) hD⟩)
    | trace_state
end Go.Proofs.Ytbaioodjcjbklaa
