/-
  The walk of the law MeanmoonRound: the nearest integer differs by at most one half, by one half only if even; rounding is monotone.
-/
import Derived.Test.YtbaioodjcjbklaaBase7
namespace Go.Proofs.Ytbaioodjcjbklaa
open Go.RowKit
set_option exponentiation.threshold 2000
/-- rounding, in units -/
theorem rint_spec {x : Nat} : 2 * sval x ≤ (2 * rint x + 1) * U ∧ (2 * rint x - 1) * U ≤ 2 * sval x ∧ (2 * sval x = (2 * rint x + 1) * U → rint x % 2 = 0) ∧ (2 * sval x = (2 * rint x - 1) * U → rint x % 2 = 0) := by
  obtain ⟨s1, s2, s3, s4⟩ := even_spec (isNeg x) (V (rungOf x)) U U_pos
  unfold rint rmag
  rw [sval_eq]
  generalize cutq .even (isNeg x) (V (rungOf x)) U = c at *
  generalize V (rungOf x) = v at *
  have e1 : ((2 * c + 1 : Nat) * U : Nat) = 2 * (c * U) + U := by rw [Nat.add_mul, Nat.mul_assoc, Nat.one_mul]
  have e2 : (2 * c * U : Nat) = 2 * (c * U) := by rw [Nat.mul_assoc]
  rw [e1] at s1 s3
  rw [e2] at s2 s4
  have k1 : (2 * (c : Int) + 1) * (U : Int) = 2 * ((c * U : Nat) : Int) + U := by rw [Int.add_mul, Int.mul_assoc, Int.one_mul]; rfl
  have k2 : (2 * (c : Int) - 1) * (U : Int) = 2 * ((c * U : Nat) : Int) - U := by rw [Int.sub_mul, Int.mul_assoc, Int.one_mul]; rfl
  have k3 : (2 * -(c : Int) + 1) * (U : Int) = -(2 * ((c * U : Nat) : Int)) + U := by rw [Int.add_mul, Int.mul_assoc, Int.neg_mul, Int.one_mul]; rw [Int.mul_neg]; rfl
  have k4 : (2 * -(c : Int) - 1) * (U : Int) = -(2 * ((c * U : Nat) : Int)) - U := by rw [Int.sub_mul, Int.mul_assoc, Int.neg_mul, Int.one_mul]; rw [Int.mul_neg]; rfl
  unfold dsign
  cases isNeg x
  · simp only [Bool.false_eq_true, if_false]
    rw [k1, k2]
    generalize c * U = t at *
    refine ⟨by omega, by omega, fun h => ?_, fun h => ?_⟩
    · have := s3 (by omega); omega
    · have := s4 (by omega); omega
  · simp only [if_true]
    rw [k3, k4]
    generalize c * U = t at *
    refine ⟨by omega, by omega, fun h => ?_, fun h => ?_⟩
    · have := s4 (by omega); omega
    · have := s3 (by omega); omega
theorem rint_mono {x y : Nat} (h : sval x ≤ sval y) : rint x ≤ rint y := by
  obtain ⟨a1, a2, a3, a4⟩ := rint_spec (x := x)
  obtain ⟨b1, b2, b3, b4⟩ := rint_spec (x := y)
  have hU : (0 : Int) < U := by have := U_pos; omega
  refine Int.le_of_not_gt fun hlt => ?_
  have e : (2 * rint y + 1) * (U : Int) ≤ (2 * rint x - 1) * U := Int.mul_le_mul_of_nonneg_right (by omega) (by omega)
  have e1 : 2 * sval x = (2 * rint x - 1) * U := by omega
  have e2 : 2 * sval y = (2 * rint y + 1) * U := by omega
  have e3 : (2 * rint y + 1) * (U : Int) = (2 * rint x - 1) * U := by omega
  have e4 : 2 * rint y + 1 = 2 * rint x - 1 := Int.eq_of_mul_eq_mul_right (by omega) e3
  have := a4 e1
  have := b3 e2
  omega
/-- the difference of a number and its nearest integer, exactly -/
theorem round_diff {x : Nat} (h : okR x = true) : ∃ d, Ieee.double.sub (floatOfInt .f64 (rint x)) x = some d ∧ d < 18446744073709551616 ∧ rungOf d ≤ 4602678819172646912 ∧ sval d = rint x * U - sval x := by
  have hk : rungOf x < 4886405595696988160 := by unfold okR at h; rwa [decide_eq_true_eq] at h
  obtain ⟨r, e, hv, hr⟩ := int_parts .even (x := x) (by omega)
  have hn : (rint x).natAbs = cutq .even (isNeg x) (V (rungOf x)) U := by unfold rint rmag dsign; split <;> omega
  have hf := of_int (n := rint x) hr (by rw [hn]; exact hv)
  obtain ⟨p1, p2, p3⟩ := word_parts (s := decide (rint x < 0)) (show r < 9223372036854775808 by omega)
  obtain ⟨d, e2, hd⟩ := sub_near (x := floatOfInt .f64 (rint x)) (y := x) (by rw [hf, p2]; exact hr) (by omega)
  have hsf : sval (floatOfInt .f64 (rint x)) = rint x * U := by
    rw [hf, sval_word (by omega), hv, ← hn]
    unfold dsign
    by_cases h0 : rint x < 0
    · rw [decide_eq_true h0, if_pos rfl, Int.natCast_mul, ← Int.neg_mul]
      congr 1; omega
    · rw [decide_eq_false h0, if_neg (by decide), Int.natCast_mul]
      congr 1; omega
  rw [hsf] at hd
  obtain ⟨a1, a2, _, _⟩ := rint_spec (x := x)
  have b1 : (2 * rint x + 1) * (U : Int) = 2 * (rint x * U) + U := by rw [Int.add_mul, Int.mul_assoc, Int.one_mul]
  have b2 : (2 * rint x - 1) * (U : Int) = 2 * (rint x * U) - U := by rw [Int.sub_mul, Int.mul_assoc, Int.one_mul]
  rw [b1] at a1
  rw [b2] at a2
  have hE : 2 * (rint x * U - sval x).natAbs ≤ U := by omega
  have hrep : ∃ q, V q = (rint x * U - sval x).natAbs := by
    by_cases h0 : rint x = 0
    · refine ⟨rungOf x, ?_⟩
      rw [h0, Int.zero_mul, sval_eq]; unfold dsign; split <;> omega
    · obtain ⟨m, u, _, v1, hm, _⟩ := read_fin (x := x) (by omega)
      have hs : sval x = dsign (isNeg x) (m * 2 ^ u) := by rw [sval_eq, v1]
      have hc : 1 ≤ cutq .even (isNeg x) (V (rungOf x)) U := by omega
      by_cases hu : u ≤ 1074
      · have hU : U = 2 ^ (1074 - u) * 2 ^ u := by rw [U_eq, ← Nat.pow_add]; congr 1; omega
        have hEe : ∃ e : Nat, (rint x * U - sval x).natAbs = e * 2 ^ u := by
          refine ⟨(rint x * (2 ^ (1074 - u) : Nat) - dsign (isNeg x) m).natAbs, ?_⟩
          have : rint x * U - sval x = (rint x * (2 ^ (1074 - u) : Nat) - dsign (isNeg x) m) * (2 ^ u : Nat) := by
            rw [hs, Int.sub_mul, Int.mul_assoc, ← Int.natCast_mul, ← hU]
            congr 1
            unfold dsign
            split
            · rw [Int.natCast_mul, Int.neg_mul]
            · rw [Int.natCast_mul]
          rw [this, Int.natAbs_mul, Int.natAbs_natCast]
        obtain ⟨e, he⟩ := hEe
        have hle : (rint x * U - sval x).natAbs ≤ m * 2 ^ u := by
          obtain ⟨_, s2, _, _⟩ := even_spec (isNeg x) (V (rungOf x)) U U_pos
          have : 2 * U ≤ 2 * cutq .even (isNeg x) (V (rungOf x)) U * U := Nat.mul_le_mul_right _ (by omega)
          omega
        rw [he] at hle
        have := Nat.le_of_mul_le_mul_right hle (Nat.pow_pos (by decide))
        obtain ⟨q, hq⟩ := V_of u e (by omega)
        exact ⟨q, by rw [hq, he]⟩
      · obtain ⟨t, hU⟩ : ∃ t, V (rungOf x) = t * U := ⟨m * 2 ^ (u - 1074), by rw [← v1, U_eq, Nat.mul_assoc, ← Nat.pow_add]; congr 2; omega⟩
        have hz : rint x * U - sval x = 0 := by
          unfold rint rmag
          rw [sval_eq, hU, cutq_mul]
          unfold dsign
          split
          · rw [Int.natCast_mul, Int.neg_mul]; omega
          · rw [Int.natCast_mul]; omega
        exact ⟨0, by rw [hz, V_zero]; rfl⟩
  obtain ⟨q, hq⟩ := hrep
  have hq2 : q ≤ 4602678819172646912 := by
    refine Nat.le_of_not_lt fun h2 => ?_
    have h3 := V_lt h2
    have := V_half
    omega
  exact ⟨d, e2, hd.lt, by rw [hd.exact (r := q) (by omega) hq.symm]; exact hq2, hd.exact_sval (r := q) (by omega) hq.symm⟩
theorem order_half {d c : Nat} (hd : rungOf d ≤ 4602678819172646912) (hc : rungOf c ≤ 9218868437227405312) : FloatKind.f64.format.order d c = some (compare (sval d) (sval c)) := by
  rw [fmt64, order_nn (by omega) hc]
theorem round_laws {x : Nat} (h : okR x = true) : ∃ d, Ieee.double.sub (floatOfInt .f64 (rint x)) x = some d ∧ (FloatKind.f64.format.order d 4602678819172646912 == some Ordering.gt) = false ∧ (FloatKind.f64.format.order d 13826050856027422720 == some Ordering.lt) = false ∧
    ((rint x).tmod 2 = 0 ∨ ((rint x).tmod 2 ≠ 0 ∧ (FloatKind.f64.format.order d 4602678819172646912 == some Ordering.eq) = false ∧ (FloatKind.f64.format.order d 13826050856027422720 == some Ordering.eq) = false)) := by
  obtain ⟨d, e, _, hr, hs⟩ := round_diff h
  have s1 : sval 4602678819172646912 = (V 4602678819172646912 : Int) := sval_pos (by omega)
  have s2 : sval 13826050856027422720 = -(V 4602678819172646912 : Int) := by rw [sval_eq]; rfl
  have hh := V_half
  obtain ⟨a1, a2, a3, a4⟩ := rint_spec (x := x)
  have b1 : (2 * rint x + 1) * (U : Int) = 2 * (rint x * U) + U := by rw [Int.add_mul, Int.mul_assoc, Int.one_mul]
  have b2 : (2 * rint x - 1) * (U : Int) = 2 * (rint x * U) - U := by rw [Int.sub_mul, Int.mul_assoc, Int.one_mul]
  rw [b1] at a1 a3
  rw [b2] at a2 a4
  refine ⟨d, e, ?_, ?_, ?_⟩
  · rw [order_half hr (by decide), s1, Bool.eq_false_iff, ne_eq, beq_iff_eq, Option.some.injEq, Int.compare_eq_gt]; omega
  · rw [order_half hr (by decide), s2, Bool.eq_false_iff, ne_eq, beq_iff_eq, Option.some.injEq, Int.compare_eq_lt]; omega
  · by_cases h0 : (rint x).tmod 2 = 0
    · exact Or.inl h0
    · right
      have h1 : rint x % 2 ≠ 0 := fun h2 => h0 (Int.tmod_eq_zero_of_dvd (Int.dvd_of_emod_eq_zero h2))
      refine ⟨h0, ?_, ?_⟩
      · rw [order_half hr (by decide), s1, Bool.eq_false_iff, ne_eq, beq_iff_eq, Option.some.injEq, Int.compare_eq_eq]
        intro h2; exact h1 (a4 (by omega))
      · rw [order_half hr (by decide), s2, Bool.eq_false_iff, ne_eq, beq_iff_eq, Option.some.injEq, Int.compare_eq_eq]
        intro h2; exact h1 (a3 (by omega))
theorem leq_mono {x y : Nat} (hx : okR x = true) (hy : okR y = true) (h : (FloatKind.f64.format.order x y == some Ordering.lt || FloatKind.f64.format.order x y == some Ordering.eq) = true) : rint x ≤ rint y := by
  have px := okR_proper hx
  have py := okR_proper hy
  unfold Proper at px py
  apply rint_mono
  rw [fmt64, order_nn px py] at h
  rw [Bool.or_eq_true, beq_iff_eq, beq_iff_eq, Option.some.injEq, Option.some.injEq, Int.compare_eq_lt, Int.compare_eq_eq] at h
  omega
set_option maxRecDepth 100000 in
set_option maxHeartbeats 1000000 in
theorem round_w (a b : Nat) (w : World) (ha : a < 18446744073709551616) (hb : b < 18446744073709551616) : Calls Try.prog 4 #[.int .u64 (bitsOf a), .int .u64 (bitsOf b)] w fun e w' => e = .returned (.bool true) ∧ Below w.heap.size w w' := by
  have HA := Lib.hid ha
  have HB := Lib.hid hb
  rcases hoa : okR a with _ | _
  · have HO := Lib.hid hoa
    clear ha hb hoa
    go_enter Try.func4, Try.ntmps4
    go_wp2_with first
      | (go_at_call 9; refine (awake_c _).mono ?_; rintro e w1 ⟨rfl, hB⟩)
      | (go_at_call 12; with_reducible refine (round_no a _ HA.out HO.out).mono ?_; rintro e w2 ⟨rfl, rfl⟩)
    all_goals go_ret
    all_goals exact ⟨rfl, hB⟩
  · obtain ⟨d, e1, d1, d2, d3⟩ := round_laws hoa
    have H0 : ∀ w, (convert 3 24 (.int .i64 (rint a))).run Try.prog w = .ok (.float .f64 (floatOfInt .f64 (rint a))) w := fun w => run_convert_int_float w 3 24 .i64 .f64 _ (by kernel_rfl) (by kernel_rfl)
    have H1 : ∀ t w, (binOp .sub t (.float .f64 (floatOfInt .f64 (rint a))) (.float .f64 a)).run Try.prog w = .ok (.float .f64 d) w := fun t w => run_float_arith w .sub t .f64 _ _ _ e1
    have HR := Lib.hid (fun w => round_yes a w ha hoa)
    have HM : okR b = true → (FloatKind.f64.format.order a b == some Ordering.lt || FloatKind.f64.format.order a b == some Ordering.eq) = true → rint a ≤ rint b := leq_mono hoa
    have HY := Lib.hid (fun w => round_yes b w hb)
    have HN := Lib.hid (fun w => round_no b w hb)
    have HC : (okR b = false) ∨ (okR b = true ∧ (FloatKind.f64.format.order a b == some Ordering.lt || FloatKind.f64.format.order a b == some Ordering.eq) = true ∧ rint a ≤ rint b) ∨ (okR b = true ∧ (FloatKind.f64.format.order a b == some Ordering.lt) = false ∧ (FloatKind.f64.format.order a b == some Ordering.eq) = false) := by
      cases hb : okR b
      · exact Or.inl rfl
      · right
        cases hl : (FloatKind.f64.format.order a b == some Ordering.lt || FloatKind.f64.format.order a b == some Ordering.eq)
        · right; rw [Bool.or_eq_false_iff] at hl; exact ⟨rfl, hl.1, hl.2⟩
        · left; exact ⟨rfl, rfl, HM hb hl⟩
    clear ha hb hoa e1 HM
    generalize rint a = n at *
    generalize floatOfInt .f64 n = f at *
    generalize rint b = m at *
    rcases d3 with d3 | ⟨d3, d4, d5⟩
    all_goals
      rcases HC with h1 | ⟨h1, h2, h3⟩ | ⟨h1, h2, h3⟩
    all_goals have HO := Lib.hid h1
    all_goals clear h1
    all_goals
      go_enter Try.func4, Try.ntmps4
      go_wp2_with first
        | (go_at_call 9; refine (awake_c _).mono ?_; rintro e w1 ⟨rfl, hB⟩)
        | (go_at_call 12; with_reducible refine (HR.out _).mono ?_; rintro e w2 ⟨rfl, rfl⟩)
        | (go_at_call 12; with_reducible refine (HY.out _ HO.out).mono ?_; rintro e w2 ⟨rfl, rfl⟩)
        | (go_at_call 12; with_reducible refine (HN.out _ HO.out).mono ?_; rintro e w2 ⟨rfl, rfl⟩)
    all_goals first
      | (go_ret; exact ⟨rfl, hB⟩)
      | trace_state
end Go.Proofs.Ytbaioodjcjbklaa
