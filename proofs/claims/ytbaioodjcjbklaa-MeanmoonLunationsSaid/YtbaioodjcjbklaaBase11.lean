/-
  Contracts of the reference's floor and rounding, for all double-precision words.
-/
import Derived.Test.YtbaioodjcjbklaaBase10
namespace Go.Proofs.Ytbaioodjcjbklaa
open Go.RowKit
set_option exponentiation.threshold 2000
/-- the reference's floor -/
def rflo (x : Nat) : Nat := if 4845873199050653696 ≤ rungOf x then x else floatOfInt .f64 (iway .down x)
theorem whole_of {x : Nat} (h : 4845873199050653696 ≤ rungOf x) : ∃ n, V (rungOf x) = n * U := by
  apply V_great
  rw [← V_53]; exact V_le h
theorem word_self {x : Nat} (hx : x < 18446744073709551616) : Ieee.double.word (isNeg x) (rungOf x) = x := word_of hx
theorem sval_down {x : Nat} (hx : rungOf x < 9218868437227405312) : sval (vInt .down x) = iway .down x * U := by
  obtain ⟨r, e, hv, hr⟩ := int_parts .down (x := x) hx
  rw [e, sval_word (by omega), hv]
  unfold iway dsign
  split
  · rw [Int.natCast_mul, Int.neg_mul]
  · rw [Int.natCast_mul]
theorem natAbs_iway (way : Ieee.Toward) (x : Nat) : (iway way x).natAbs = cutq way (isNeg x) (V (rungOf x)) U := by unfold iway dsign; split <;> omega
theorem rflo_spec {x : Nat} (hx : rungOf x < 9218868437227405312) (hl : x < 18446744073709551616) : sval (rflo x) = iway .down x * U ∧ rungOf (rflo x) < 9218868437227405312 ∧ (isNeg x = false ∨ rungOf x ≠ 0 → rflo x = vInt .down x) := by
  obtain ⟨r, e, hv, hr⟩ := int_parts .down (x := x) hx
  obtain ⟨p1, p2, p3⟩ := word_parts (s := isNeg x) (show r < 9223372036854775808 by omega)
  unfold rflo
  by_cases hg : 4845873199050653696 ≤ rungOf x
  · rw [if_pos hg]
    obtain ⟨n, hn⟩ := whole_of hg
    rw [hn, cutq_mul, ← hn] at hv
    have hrx := V_inj hv
    have hx2 : vInt .down x = x := by rw [e, hrx, word_self hl]
    exact ⟨by rw [← sval_down hx, hx2], hx, fun _ => hx2.symm⟩
  · rw [if_neg hg]
    have hf := of_int (n := iway .down x) hr (by rw [natAbs_iway]; exact hv)
    obtain ⟨q1, q2, q3⟩ := word_parts (s := decide (iway .down x < 0)) (show r < 9223372036854775808 by omega)
    refine ⟨?_, by rw [hf, q2]; exact hr, ?_⟩
    · rw [hf, sval_word (by omega), hv, ← natAbs_iway]
      unfold dsign
      by_cases h0 : iway .down x < 0
      · rw [decide_eq_true h0, if_pos rfl, Int.natCast_mul, ← Int.neg_mul]
        congr 1; omega
      · rw [decide_eq_false h0, if_neg (by decide), Int.natCast_mul]
        congr 1; omega
    · intro hz
      rw [hf, e]
      congr 1
      unfold iway dsign
      rcases hs : isNeg x with _ | _
      · simp
      · have h0 : rungOf x ≠ 0 := by
          rcases hz with h | h
          · rw [hs] at h; cases h
          · exact h
        have h1 : 0 < V (rungOf x) := by have := V_lt (Nat.pos_of_ne_zero h0); omega
        have h2 : 0 < cutq .down true (V (rungOf x)) U := by
          rw [down_neg]
          by_cases h3 : V (rungOf x) % U = 0
          · rw [if_pos h3]
            have := Nat.div_add_mod (V (rungOf x)) U
            have h4 : V (rungOf x) / U ≠ 0 := fun h5 => by rw [h5, h3, Nat.mul_zero] at this; omega
            exact Nat.pos_of_ne_zero h4
          · rw [if_neg h3]; exact Nat.succ_pos _
        simp; omega
theorem sval_const {c : Nat} (hc : c < 9223372036854775808) : sval (c + 9223372036854775808) = -(V c : Int) := by
  have h1 : isNeg (c + 9223372036854775808) = true := by rw [isNeg_iff (by omega), decide_eq_true_eq]; omega
  have h2 : rungOf (c + 9223372036854775808) = c := by unfold rungOf; omega
  rw [sval_eq, h1, h2]; rfl
theorem big_no {x c : Nat} (h : rungOf x < c) (hc : c ≤ 9218868437227405312) : (FloatKind.f64.format.order x c == some Ordering.gt) = false ∧ (FloatKind.f64.format.order x c == some Ordering.eq) = false ∧ (FloatKind.f64.format.order x (c + 9223372036854775808) == some Ordering.lt) = false ∧ (FloatKind.f64.format.order x (c + 9223372036854775808) == some Ordering.eq) = false := by
  have hv := V_lt h
  have e1 : rungOf c = c := (rung_small (by omega)).2
  have e2 : rungOf (c + 9223372036854775808) = c := by unfold rungOf; omega
  have b : -(V c : Int) < sval x ∧ sval x < V c := by rw [sval_eq]; unfold dsign; split <;> omega
  rw [fmt64, order_nn (by omega) (by omega), order_nn (by omega) (by omega), sval_pos (x := c) (by omega), sval_const (c := c) (by omega), Int.compare_eq_lt.2 b.2, Int.compare_eq_gt.2 b.1]
  decide
theorem big_pos {x c : Nat} (h : c ≤ rungOf x) (hx : rungOf x ≤ 9218868437227405312) (hs : isNeg x = false) : (FloatKind.f64.format.order x c == some Ordering.gt || FloatKind.f64.format.order x c == some Ordering.eq) = true := by
  have hv := V_le h
  have e1 : rungOf c = c := (rung_small (by omega)).2
  rw [fmt64, order_nn (by omega) (by omega), sval_pos (x := c) (by omega), sval_eq x, hs]
  show (some (compare (V (rungOf x) : Int) (V c : Int)) == some Ordering.gt || some (compare (V (rungOf x) : Int) (V c : Int)) == some Ordering.eq) = true
  rcases Nat.lt_or_eq_of_le hv with h | h
  · rw [Int.compare_eq_gt.2 (by omega)]; rfl
  · rw [Int.compare_eq_eq.2 (by omega)]; rfl
theorem big_neg {x c : Nat} (h : c ≤ rungOf x) (hx : rungOf x ≤ 9218868437227405312) (h0 : 0 < c) (hs : isNeg x = true) : (FloatKind.f64.format.order x c == some Ordering.gt) = false ∧ (FloatKind.f64.format.order x c == some Ordering.eq) = false ∧ (FloatKind.f64.format.order x (c + 9223372036854775808) == some Ordering.lt || FloatKind.f64.format.order x (c + 9223372036854775808) == some Ordering.eq) = true := by
  have hv := V_le h
  have h1 := V_lt h0
  have e1 : rungOf c = c := (rung_small (by omega)).2
  have e2 : rungOf (c + 9223372036854775808) = c := by unfold rungOf; omega
  rw [fmt64, order_nn (by omega) (by omega), order_nn (by omega) (by omega), sval_pos (x := c) (by omega), sval_const (c := c) (by omega), sval_eq x, hs]
  show (some (compare (-(V (rungOf x) : Int)) (V c : Int)) == some Ordering.gt) = false ∧ (some (compare (-(V (rungOf x) : Int)) (V c : Int)) == some Ordering.eq) = false ∧ (some (compare (-(V (rungOf x) : Int)) (-(V c : Int))) == some Ordering.lt || some (compare (-(V (rungOf x) : Int)) (-(V c : Int))) == some Ordering.eq) = true
  rw [Int.compare_eq_lt.2 (by omega)]
  refine ⟨by decide, by decide, ?_⟩
  rcases Nat.lt_or_eq_of_le hv with h | h
  · rw [Int.compare_eq_lt.2 (by omega)]; rfl
  · rw [Int.compare_eq_eq.2 (by omega)]; rfl
/-- cutting towards zero, then down where the number is less -/
theorem trunc_laws {x : Nat} (h : rungOf x < 4845873199050653696) : ∃ n : Int, floatToIntVal .f64 x .i64 = some n ∧
    (((FloatKind.f64.format.order (floatOfInt .f64 n) x == some Ordering.gt) = false ∧ iway .down x = n) ∨ ((FloatKind.f64.format.order (floatOfInt .f64 n) x == some Ordering.gt) = true ∧ wrap64 (n - 1) = iway .down x)) := by
  have hv := V_lt h
  rw [V_53] at hv
  have hU := U_pos
  have hq : V (rungOf x) / U < 9007199254740992 := (Nat.div_lt_iff_lt_mul hU).2 hv
  obtain ⟨r, hr⟩ := V_of 1074 (V (rungOf x) / U) (by omega)
  rw [← U_eq] at hr
  have hrb : r < 9218868437227405312 := by
    have h2 : V r ≤ V 4845873199050653696 := by rw [hr, V_53]; exact Nat.mul_le_mul_right _ (by omega)
    have h3 : V 4845873199050653696 < V 9218868437227405312 := V_lt (by omega)
    exact V_lt_iff.1 (Nat.lt_of_le_of_lt h2 h3)
  refine ⟨dsign (isNeg x) (V (rungOf x) / U), to_i64 (by omega) (by omega), ?_⟩
  have hna : (dsign (isNeg x) (V (rungOf x) / U)).natAbs = V (rungOf x) / U := by
    generalize V (rungOf x) / U = c
    unfold dsign; split <;> omega
  have hf := of_int (n := dsign (isNeg x) (V (rungOf x) / U)) hrb (by rw [hna]; exact hr)
  obtain ⟨q1, q2, q3⟩ := word_parts (s := decide (dsign (isNeg x) (V (rungOf x) / U) < 0)) (show r < 9223372036854775808 by omega)
  have hsf : sval (floatOfInt .f64 (dsign (isNeg x) (V (rungOf x) / U))) = dsign (isNeg x) (V (rungOf x) / U * U) := by
    rw [hf, sval_word (by omega), hr]
    generalize V (rungOf x) / U = c
    unfold dsign
    cases isNeg x
    · simp; omega
    · by_cases h0 : c = 0
      · subst h0; simp
      · simp; omega
  rw [fmt64, order_nn (by rw [hf, q2]; omega) (by omega), hsf, sval_eq]
  have hd := Nat.div_add_mod (V (rungOf x)) U
  rw [Nat.mul_comm] at hd
  unfold iway
  rcases hs : isNeg x with _ | _
  · left
    rw [down_pos]
    refine ⟨?_, rfl⟩
    unfold dsign
    rw [Bool.eq_false_iff, ne_eq, beq_iff_eq, Option.some.injEq, Int.compare_eq_gt]
    simp only [Bool.false_eq_true, if_false]
    generalize V (rungOf x) / U * U = t at *
    omega
  · rw [down_neg]
    unfold dsign
    simp only [if_true]
    by_cases h0 : V (rungOf x) % U = 0
    · left
      rw [if_pos h0, Nat.add_zero]
      refine ⟨?_, rfl⟩
      rw [Bool.eq_false_iff, ne_eq, beq_iff_eq, Option.some.injEq, Int.compare_eq_gt]
      generalize V (rungOf x) / U * U = t at *
      omega
    · right
      rw [if_neg h0]
      refine ⟨?_, ?_⟩
      · rw [beq_iff_eq, Option.some.injEq, Int.compare_eq_gt]
        generalize V (rungOf x) / U * U = t at *
        omega
      · generalize V (rungOf x) / U = c at *
        unfold wrap64; omega
theorem conv_i64 (n : Int) (w : World) : (convert 3 24 (.int .i64 n)).run Try.prog w = .ok (.float .f64 (floatOfInt .f64 n)) w := run_convert_int_float w 3 24 .i64 .f64 n (by kernel_rfl) (by kernel_rfl)
set_option maxHeartbeats 1000000 in
theorem rfloor_c (x : Nat) (w : World) (hx : rungOf x < 9218868437227405312) : Calls Try.prog 45 #[.float .f64 x] w fun e w' => e = .returned (.float .f64 (rflo x)) ∧ w = w' := by
  unfold rflo
  by_cases hg : 4845873199050653696 ≤ rungOf x
  · rw [if_pos hg]
    rcases hs : isNeg x with _ | _
    · have G := big_pos hg (by omega) hs
      clear hg hx hs
      go_enter Try.func45, Try.ntmps45
      go_wp2
      all_goals go_ret
      all_goals exact ⟨rfl, rfl⟩
    · obtain ⟨G1, G2, G3⟩ := big_neg hg (by omega) (by decide) hs
      clear hg hx hs
      go_enter Try.func45, Try.ntmps45
      go_wp2
      all_goals go_ret
      all_goals exact ⟨rfl, rfl⟩
  · rw [if_neg hg]
    obtain ⟨G1, G2, G3, G4⟩ := big_no (x := x) (c := 4845873199050653696) (by omega) (by omega)
    obtain ⟨n, hn, hc⟩ := trunc_laws (x := x) (by omega)
    have H0 := conv_run hn
    have H1 := conv_i64
    clear hg hx hn
    generalize iway .down x = k at *
    rcases hc with ⟨T, rfl⟩ | ⟨T, hk⟩
    · go_enter Try.func45, Try.ntmps45
      go_wp2
      all_goals go_ret
      all_goals exact ⟨rfl, rfl⟩
    · go_enter Try.func45, Try.ntmps45
      go_wp2
      all_goals go_ret
      all_goals exact ⟨rfl, rfl⟩
/-- the reference's rounding: the floor, and one more -/
theorem rfl_round {x : Nat} (h : rungOf x < 4886405595696988160) (hl : x < 18446744073709551616) : ∃ d, Ieee.double.sub x (rflo x) = some d ∧
    ((FloatKind.f64.format.order d 4602678819172646912 == some Ordering.gt) = true ∧ rint x = iway .down x + 1 ∨
     (FloatKind.f64.format.order d 4602678819172646912 == some Ordering.gt) = false ∧ (FloatKind.f64.format.order d 4602678819172646912 == some Ordering.eq) = true ∧ (iway .down x).tmod 2 ≠ 0 ∧ rint x = iway .down x + 1 ∨
     (FloatKind.f64.format.order d 4602678819172646912 == some Ordering.gt) = false ∧ (FloatKind.f64.format.order d 4602678819172646912 == some Ordering.eq) = true ∧ (iway .down x).tmod 2 = 0 ∧ rint x = iway .down x ∨
     (FloatKind.f64.format.order d 4602678819172646912 == some Ordering.gt) = false ∧ (FloatKind.f64.format.order d 4602678819172646912 == some Ordering.eq) = false ∧ rint x = iway .down x) := by
  obtain ⟨hs, hf, _⟩ := rflo_spec (x := x) (by omega) hl
  obtain ⟨d, e, hd⟩ := sub_near (x := x) (y := rflo x) (by omega) hf
  rw [hs] at hd
  obtain ⟨g1, g2⟩ := floor_gap (q := x) (by omega)
  rw [sval_down (by omega)] at g1 g2
  obtain ⟨a1, a2, a3, a4⟩ := rint_spec (x := x)
  refine ⟨d, e, ?_⟩
  have hU : (0 : Int) < U := by have := U_pos; omega
  have b1 : (2 * rint x + 1) * (U : Int) = 2 * (rint x * U) + U := by rw [Int.add_mul, Int.mul_assoc, Int.one_mul]
  have b2 : (2 * rint x - 1) * (U : Int) = 2 * (rint x * U) - U := by rw [Int.sub_mul, Int.mul_assoc, Int.one_mul]
  rw [b1] at a1 a3
  rw [b2] at a2 a4
  have hh := V_half
  -- which of the two
  have hsel : (2 * (sval x - iway .down x * U) < U → rint x = iway .down x) ∧ (U < 2 * (sval x - iway .down x * U) → rint x = iway .down x + 1) ∧ (2 * (sval x - iway .down x * U) = U → (rint x = iway .down x ∨ rint x = iway .down x + 1) ∧ rint x % 2 = 0) := by
    generalize iway .down x = n at *
    have key : ∀ a b : Int, a * (U : Int) < b * U → a < b := fun a b h => Int.lt_of_mul_lt_mul_right h (by omega)
    have c1 : (n + 1) * (U : Int) = n * U + U := by rw [Int.add_mul, Int.one_mul]
    have c2 : (n - 1) * (U : Int) = n * U - U := by rw [Int.sub_mul, Int.one_mul]
    have c3 : (n + 2) * (U : Int) = n * U + 2 * U := by rw [Int.add_mul]
    refine ⟨fun h => ?_, fun h => ?_, fun h => ?_⟩
    · have l1 := key (rint x) (n + 1) (by rw [c1]; omega)
      have l2 := key (n - 1) (rint x) (by rw [c2]; omega)
      omega
    · have l1 := key (rint x) (n + 2) (by rw [c3]; omega)
      have l2 := key n (rint x) (by omega)
      omega
    · have l1 := key (rint x) (n + 2) (by rw [c3]; omega)
      have l2 := key (n - 1) (rint x) (by rw [c2]; omega)
      refine ⟨by omega, ?_⟩
      rcases (by omega : rint x = n ∨ rint x = n + 1) with h2 | h2
      · apply a3; rw [h2]; omega
      · apply a4; rw [h2, c1]; omega
  have hcase : (sval x - iway .down x * U).natAbs ≤ V (rungOf x) ∨ (iway .down x = -1 ∧ U < 2 * (sval x - iway .down x * U)) := by
    have hdm := Nat.div_add_mod (V (rungOf x)) U
    have hml := Nat.mod_lt (V (rungOf x)) U_pos
    rw [Nat.mul_comm] at hdm
    rw [sval_eq] at g1 g2 ⊢
    unfold iway at g1 g2 ⊢
    rcases hsx : isNeg x with _ | _
    · left
      rw [hsx] at g1 g2
      rw [down_pos] at g1 g2 ⊢
      unfold dsign at *
      simp only [Bool.false_eq_true, if_false] at g1 g2 ⊢
      rw [← Int.natCast_mul] at g1 g2 ⊢
      generalize V (rungOf x) / U * U = t at *
      omega
    · rw [hsx] at g1 g2
      rw [down_neg] at g1 g2 ⊢
      unfold dsign at *
      simp only [if_true] at g1 g2 ⊢
      rw [Int.neg_mul, ← Int.natCast_mul] at g1 g2 ⊢
      by_cases h0 : V (rungOf x) % U = 0
      · left
        rw [if_pos h0, Nat.add_zero] at g1 g2 ⊢
        generalize V (rungOf x) / U * U = t at *
        omega
      · rw [if_neg h0, Nat.succ_mul] at g1 g2
        rw [if_neg h0, Nat.succ_mul]
        rcases Nat.eq_zero_or_pos (V (rungOf x) / U) with h1 | h1
        · rw [h1, Nat.zero_mul] at hdm g1 g2 ⊢
          by_cases h2 : 2 * V (rungOf x) < U
          · right
            exact ⟨rfl, by omega⟩
          · left; omega
        · left
          have : 1 * U ≤ V (rungOf x) / U * U := Nat.mul_le_mul_right _ h1
          generalize V (rungOf x) / U * U = t at *
          omega
  have hex : (sval x - iway .down x * U).natAbs ≤ V (rungOf x) → ∃ q, V q = (sval x - iway .down x * U).natAbs := by
    intro hle
    obtain ⟨m, u, _, v1, hm, _⟩ := read_fin (x := x) (by omega)
    have hsx : sval x = dsign (isNeg x) (m * 2 ^ u) := by rw [sval_eq, v1]
    by_cases hu : u ≤ 1074
    · have hU2 : U = 2 ^ (1074 - u) * 2 ^ u := by rw [U_eq, ← Nat.pow_add]; congr 1; omega
      have hEe : ∃ e : Nat, (sval x - iway .down x * U).natAbs = e * 2 ^ u := by
        refine ⟨(dsign (isNeg x) m - iway .down x * (2 ^ (1074 - u) : Nat)).natAbs, ?_⟩
        have : sval x - iway .down x * U = (dsign (isNeg x) m - iway .down x * (2 ^ (1074 - u) : Nat)) * (2 ^ u : Nat) := by
          rw [hsx, Int.sub_mul, Int.mul_assoc, ← Int.natCast_mul (2 ^ (1074 - u)), ← hU2]
          congr 1
          unfold dsign
          split
          · rw [Int.natCast_mul, Int.neg_mul]
          · rw [Int.natCast_mul]
        rw [this, Int.natAbs_mul, Int.natAbs_natCast]
      obtain ⟨e, he⟩ := hEe
      rw [he, ← v1] at hle
      have := Nat.le_of_mul_le_mul_right hle (Nat.pow_pos (by decide))
      obtain ⟨q, hq⟩ := V_of u e (by omega)
      exact ⟨q, by rw [hq, he]⟩
    · obtain ⟨t, hU2⟩ : ∃ t, V (rungOf x) = t * U := ⟨m * 2 ^ (u - 1074), by rw [← v1, U_eq, Nat.mul_assoc, ← Nat.pow_add]; congr 2; omega⟩
      have hz : sval x - iway .down x * U = 0 := by
        unfold iway
        rw [sval_eq, hU2, cutq_mul]
        unfold dsign
        split
        · rw [Int.natCast_mul, Int.neg_mul]; omega
        · rw [Int.natCast_mul]; omega
      exact ⟨0, by rw [hz, V_zero]; rfl⟩
  have hh2 : rungOf 4602678819172646912 = 4602678819172646912 := by decide
  have hp := hd.proper
  rw [fmt64, order_nn hp (by omega), sval_pos (x := 4602678819172646912) (by omega)]
  obtain ⟨s1, s2, s3⟩ := hsel
  rcases hcase with hc | ⟨hc1, hc2⟩
  · obtain ⟨q, hq⟩ := hex hc
    have hqb : q ≤ 9218868437227405312 := by
      refine Nat.le_of_not_lt fun h2 => ?_
      have h3 := V_lt h2
      have h4 := V_lt h
      have h5 : V 4886405595696988160 < V 9218868437227405312 := V_lt (by omega)
      omega
    have hsd : sval d = sval x - iway .down x * U := hd.exact_sval hqb hq.symm
    rw [hsd]
    generalize sval x - iway .down x * U = E at *
    rcases Int.lt_trichotomy (2 * E) U with h2 | h2 | h2
    · right; right; right
      rw [Int.compare_eq_lt.2 (by omega)]
      exact ⟨by decide, by decide, s1 h2⟩
    · right
      obtain ⟨t1, t2⟩ := s3 h2
      rw [Int.compare_eq_eq.2 (by omega)]
      rcases t1 with t1 | t1
      · right; left
        exact ⟨by decide, by decide, Int.tmod_eq_zero_of_dvd (Int.dvd_of_emod_eq_zero (by rw [← t1]; exact t2)), t1⟩
      · left
        refine ⟨by decide, by decide, fun h3 => ?_, t1⟩
        have := Int.emod_eq_zero_of_dvd (Int.dvd_of_tmod_eq_zero h3)
        omega
    · left
      rw [Int.compare_eq_gt.2 (by omega)]
      exact ⟨by decide, s2 h2⟩
  · have hrg : 4602678819172646912 ≤ rungOf d := hd.ge_V (by omega) (by omega)
    have hneg : isNeg d = false := by
      rw [hd.neg, if_neg (by omega), decide_eq_false_iff_not]; omega
    have hsd : sval d = V (rungOf d) := by rw [sval_eq, hneg]; rfl
    have hv := V_le hrg
    have hr := s2 hc2
    rw [hsd]
    rcases Nat.lt_or_eq_of_le hv with h2 | h2
    · left
      rw [Int.compare_eq_gt.2 (by omega)]
      exact ⟨by decide, hr⟩
    · right; left
      rw [Int.compare_eq_eq.2 (by omega), hc1]
      exact ⟨by decide, by decide, by decide, by rw [hr, hc1]⟩
end Go.Proofs.Ytbaioodjcjbklaa
