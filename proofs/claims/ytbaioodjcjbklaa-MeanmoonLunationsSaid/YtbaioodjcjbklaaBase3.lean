/-
  Contracts of the functions of package meanmoon (phase, age, new moon, class), for all double-precision words.
-/
import Derived.Test.YtbaioodjcjbklaaBase2
namespace Go.Proofs.Ytbaioodjcjbklaa
open Go.RowKit
/-- the phase's difference -/
def fd (x : Nat) : Nat := (Ieee.double.sub (qq x) (vInt .down (qq x))).getD 0
theorem fd_spec {x : Nat} (h : reg x = true) : Ieee.double.sub (qq x) (vInt .down (qq x)) = some (fd x) ∧ Near (sval (qq x) - sval (vInt .down (qq x))) false (fd x) := by
  obtain ⟨_, _, hf, hl⟩ := reg_spec h
  obtain ⟨r, e, hv, hr⟩ := int_parts .down (x := qq x) hf
  obtain ⟨p1, p2, _⟩ := word_parts (s := isNeg (qq x)) (show r < 9223372036854775808 by omega)
  obtain ⟨d, e2, hn⟩ := sub_near (x := qq x) (y := vInt .down (qq x)) hf (by rw [e, p2]; exact hr)
  have : fd x = d := by unfold fd; rw [e2]; rfl
  rw [this]
  refine ⟨e2, ?_⟩
  have z : (isNeg (qq x) && !isNeg (vInt .down (qq x))) = false := by rw [e, p1]; cases isNeg (qq x) <;> rfl
  rwa [z] at hn
/-- the phase is nought -/
def cutF (x : Nat) : Bool := (FloatKind.f64.format.order (fd x) 4607182418800017408 == some Ordering.gt || FloatKind.f64.format.order (fd x) 4607182418800017408 == some Ordering.eq) || FloatKind.f64.format.order (fd x) 0 == some Ordering.eq
/-- the phase -/
def ph (x : Nat) : Nat := if reg x then (if cutF x then 0 else fd x) else 9221120237041090561
set_option maxHeartbeats 400000 in
theorem phase_no (x : Nat) (w : World) (h : reg x = false) : Calls Try.prog 16 #[.float .f64 x] w fun e w' => e = .returned (.float .f64 9221120237041090561) ∧ Below w.heap.size w w' := by
  have HR := Lib.hid h
  clear h
  go_enter Try.func16, Try.ntmps16
  go_wp2_with first
    | (go_at_call 42; refine (quot_not _ _ HR.out).mono ?_; rintro e w' ⟨b, rfl, HB⟩)
  all_goals go_ret
  all_goals exact ⟨rfl, HB⟩
set_option maxHeartbeats 400000 in
theorem phase_zero (x : Nat) (w : World) (h : reg x = true) (hc : cutF x = true) : Calls Try.prog 16 #[.float .f64 x] w fun e w' => e = .returned (.float .f64 0) ∧ w = w' := by
  obtain ⟨_, _, hf, _⟩ := reg_spec h
  have HP : RowKit.Hid (Proper (qq x)) := Lib.hid (by unfold Proper; omega)
  have HR := Lib.hid h
  have H1 : ∀ t w, (binOp .sub t (.float .f64 (qq x)) (.float .f64 (vInt .down (qq x)))).run Try.prog w = .ok (.float .f64 (fd x)) w := fun t w => run_float_arith w .sub t .f64 _ _ _ (fd_spec h).1
  clear h hf
  unfold cutF at hc
  rcases hg : (FloatKind.f64.format.order (fd x) 4607182418800017408 == some Ordering.gt || FloatKind.f64.format.order (fd x) 4607182418800017408 == some Ordering.eq) with _ | _
  · rw [hg, Bool.false_or] at hc
    rw [Bool.or_eq_false_iff] at hg
    obtain ⟨C1, C2⟩ := hg
    go_enter Try.func16, Try.ntmps16
    go_wp2_with first
      | (go_at_call 42; refine (quot_reg _ _ HR.out).mono ?_; rintro e w' ⟨rfl, rfl⟩)
      | (go_at_call 43; refine (floor_c _ _ HP.out).mono ?_; rintro e w' ⟨rfl, rfl⟩)
    all_goals go_ret
    all_goals exact ⟨rfl, rfl⟩
  · clear hc
    go_enter Try.func16, Try.ntmps16
    go_wp2_with first
      | (go_at_call 42; refine (quot_reg _ _ HR.out).mono ?_; rintro e w' ⟨rfl, rfl⟩)
      | (go_at_call 43; refine (floor_c _ _ HP.out).mono ?_; rintro e w' ⟨rfl, rfl⟩)
    all_goals go_ret
    all_goals exact ⟨rfl, rfl⟩
set_option maxHeartbeats 400000 in
theorem phase_some (x : Nat) (w : World) (h : reg x = true) (hc : cutF x = false) : Calls Try.prog 16 #[.float .f64 x] w fun e w' => e = .returned (.float .f64 (fd x)) ∧ w = w' := by
  obtain ⟨_, _, hf, _⟩ := reg_spec h
  have HP : RowKit.Hid (Proper (qq x)) := Lib.hid (by unfold Proper; omega)
  have HR := Lib.hid h
  have H1 : ∀ t w, (binOp .sub t (.float .f64 (qq x)) (.float .f64 (vInt .down (qq x)))).run Try.prog w = .ok (.float .f64 (fd x)) w := fun t w => run_float_arith w .sub t .f64 _ _ _ (fd_spec h).1
  clear h hf
  unfold cutF at hc
  rw [Bool.or_eq_false_iff, Bool.or_eq_false_iff] at hc
  obtain ⟨⟨C1, C2⟩, C3⟩ := hc
  go_enter Try.func16, Try.ntmps16
  go_wp2_with first
    | (go_at_call 42; refine (quot_reg _ _ HR.out).mono ?_; rintro e w' ⟨rfl, rfl⟩)
    | (go_at_call 43; refine (floor_c _ _ HP.out).mono ?_; rintro e w' ⟨rfl, rfl⟩)
  all_goals go_ret
  all_goals first
    | exact ⟨rfl, rfl⟩
    | (exfalso; simp_all; done)
    | trace_state
theorem phase_c (x : Nat) (w : World) : Calls Try.prog 16 #[.float .f64 x] w fun e w' => e = .returned (.float .f64 (ph x)) ∧ Below w.heap.size w w' := by
  unfold ph
  rcases h : reg x with _ | _
  · exact phase_no x w h
  · rcases hc : cutF x with _ | _
    · refine (phase_some x w h hc).mono ?_
      rintro e w' ⟨rfl, rfl⟩; exact ⟨rfl, .refl _ _⟩
    · refine (phase_zero x w h hc).mono ?_
      rintro e w' ⟨rfl, rfl⟩; exact ⟨rfl, .refl _ _⟩
theorem mul_some {x y : Nat} (hx : rungOf x < 9218868437227405312) (hy : rungOf y < 9218868437227405312) : ∃ g, Ieee.double.mul x y = some g ∧ Proper g ∧ g < 18446744073709551616 ∧ isNeg g = (isNeg x ^^ isNeg y) ∧
    (∀ r, 2 * (V (rungOf x) * V (rungOf y)) < (V r + V (r + 1)) * U → rungOf g ≤ r) ∧
    (∀ r, r < 9218868437227405312 → (V r + V (r + 1)) * U < 2 * (V (rungOf x) * V (rungOf y)) → r + 1 ≤ rungOf g) ∧
    (∀ j, rungOf g < 9218868437227405312 → V (rungOf x) * V (rungOf y) < 9007199254740992 * (2 ^ j * U) → 2 * (V (rungOf g) * U) ≤ 2 * (V (rungOf x) * V (rungOf y)) + 2 ^ j * U ∧ 2 * (V (rungOf x) * V (rungOf y)) ≤ 2 * (V (rungOf g) * U) + 2 ^ j * U) := by
  obtain ⟨m, u, e1, v1, _, _⟩ := read_fin hx
  obtain ⟨n, v, e2, v2, _, _⟩ := read_fin hy
  obtain ⟨g, e, hg, l1, l2, l3⟩ := near_laws (isNeg x ^^ isNeg y) (m * n) (u + v) 1074
  have hE : m * n * 2 ^ (u + v) = V (rungOf x) * V (rungOf y) := by
    rw [← v1, ← v2, Nat.pow_add, Nat.mul_assoc m n, Nat.mul_assoc m (2 ^ u), ← Nat.mul_assoc n, Nat.mul_comm n (2 ^ u), Nat.mul_assoc (2 ^ u)]
  rw [hE, ← U_eq] at l1 l2 l3
  have hp : (-1074 + (u : Int)) + (-1074 + (v : Int)) = -1074 + ((u + v : Nat) : Int) - ((1074 : Nat) : Int) := by omega
  obtain ⟨p1, p2, p3⟩ := word_parts (s := isNeg x ^^ isNeg y) (show g < 9223372036854775808 by omega)
  refine ⟨Ieee.double.word (isNeg x ^^ isNeg y) g, ?_, by unfold Proper; rw [p2]; exact hg, p3, p1, by rw [p2]; exact l1, by rw [p2]; exact l2, by rw [p2]; exact l3⟩
  unfold Ieee.Format.mul
  rw [e1, e2]
  simp only [Ieee.Datum.product, Option.map_some]
  unfold Ieee.Format.write
  rw [hp]; exact congrArg some e
theorem add_some {x y : Nat} (hx : rungOf x < 9218868437227405312) (hy : Proper y) : ∃ r, Ieee.double.add x y = some r ∧ Proper r ∧ r < 18446744073709551616 := by
  by_cases h : rungOf y < 9218868437227405312
  · obtain ⟨d, e, hn⟩ := add_near hx h
    exact ⟨d, e, hn.proper, hn.lt⟩
  · obtain ⟨n, v, e2, _, _, _⟩ := read_fin hx
    have e : rungOf y = 9218868437227405312 := by unfold Proper at hy; omega
    unfold Ieee.Format.add
    rw [e2, read_inf e]
    simp only [Ieee.Datum.sum, Option.map_some]
    obtain ⟨_, b, c⟩ := inf_parts (isNeg y)
    exact ⟨_, rfl, by unfold Proper; exact Nat.le_of_eq b, c⟩
theorem of_int_fin (k : Int) (hk : k.natAbs ≤ 9223372036854775808) : ∃ g, floatOfInt .f64 k = Ieee.double.word (decide (k < 0)) g ∧ g ≤ 4890909195324358656 := by
  obtain ⟨g, e, _, l1, _, _⟩ := near_laws (decide (k < 0)) k.natAbs 1074 0
  refine ⟨g, e, ?_⟩
  apply l1
  have h1 : V 4890909195324358656 = 9223372036854775808 * U := by rw [U_eq]; decide +kernel
  have h2 := V_succ 4890909195324358656
  rw [← U_eq, Nat.pow_zero, Nat.mul_one]
  have := Nat.mul_le_mul_right U hk
  omega
/-- the day of a new moon -/
def nm (k : Int) : Nat := ((Ieee.double.mul (floatOfInt .f64 k) 4629005339494030828).bind fun d => Ieee.double.add 4694518943220530644 d).getD 0
theorem nm_spec (k : Int) (hk : k.natAbs ≤ 9223372036854775808) : ∃ d, Ieee.double.mul (floatOfInt .f64 k) 4629005339494030828 = some d ∧ Ieee.double.add 4694518943220530644 d = some (nm k) ∧ nm k < 18446744073709551616 := by
  obtain ⟨g, e, hg⟩ := of_int_fin k hk
  obtain ⟨p1, p2, p3⟩ := word_parts (s := decide (k < 0)) (show g < 9223372036854775808 by omega)
  obtain ⟨d, e1, hd, _⟩ := mul_some (x := floatOfInt .f64 k) (y := 4629005339494030828) (by rw [e, p2]; omega) (by decide)
  obtain ⟨r, e2, _, hr⟩ := add_some (x := 4694518943220530644) (by decide) hd
  have : nm k = r := by unfold nm; rw [e1, Option.bind_some, e2]; rfl
  exact ⟨d, e1, by rw [this]; exact e2, by rw [this]; exact hr⟩
set_option maxHeartbeats 400000 in
theorem newmoon_c (k : Int) (w : World) (hk : k.natAbs ≤ 9223372036854775808) : Calls Try.prog 14 #[.int .i64 k] w fun e w' => e = .returned (.float .f64 (nm k)) ∧ w = w' := by
  obtain ⟨d, e1, e2, _⟩ := nm_spec k hk
  have H1 : ∀ t w, (binOp .mul t (.float .f64 (floatOfInt .f64 k)) (.float .f64 4629005339494030828)).run Try.prog w = .ok (.float .f64 d) w := fun t w => run_float_arith w .mul t .f64 _ _ _ e1
  have H2 : ∀ t w, (binOp .add t (.float .f64 4694518943220530644) (.float .f64 d)).run Try.prog w = .ok (.float .f64 (nm k)) w := fun t w => run_float_arith w .add t .f64 _ _ _ e2
  have H0 : ∀ w, (convert 3 24 (.int .i64 k)).run Try.prog w = .ok (.float .f64 (floatOfInt .f64 k)) w := fun w => run_convert_int_float w 3 24 .i64 .f64 k (by kernel_rfl) (by kernel_rfl)
  clear e1 e2 hk
  go_enter Try.func14, Try.ntmps14
  go_wp2
  all_goals go_ret
  all_goals exact ⟨rfl, rfl⟩
theorem floor_gap {q : Nat} (hq : rungOf q < 9218868437227405312) : 0 ≤ sval q - sval (vInt .down q) ∧ sval q - sval (vInt .down q) < U := by
  obtain ⟨r, e, hv, hr⟩ := int_parts .down (x := q) hq
  rw [e, sval_word (by omega), hv, sval_eq]
  have h := Nat.div_add_mod (V (rungOf q)) U
  have h2 := Nat.mod_lt (V (rungOf q)) U_pos
  unfold dsign
  cases isNeg q
  · rw [down_pos, Nat.mul_comm]
    generalize U * (V (rungOf q) / U) = t at *
    simp only [Bool.false_eq_true, if_false]
    omega
  · rw [down_neg]
    simp only [if_true]
    by_cases h0 : V (rungOf q) % U = 0
    · rw [if_pos h0, Nat.add_zero, Nat.mul_comm]
      generalize U * (V (rungOf q) / U) = t at *
      omega
    · rw [if_neg h0, Nat.succ_mul, Nat.mul_comm]
      generalize U * (V (rungOf q) / U) = t at *
      omega
/-- the plain facts of the phase -/
theorem fd_facts {x : Nat} (h : reg x = true) : fd x ≤ 4607182418800017408 := by
  obtain ⟨_, hn⟩ := fd_spec h
  obtain ⟨_, _, hf, _⟩ := reg_spec h
  obtain ⟨g1, g2⟩ := floor_gap hf
  generalize sval (qq x) - sval (vInt .down (qq x)) = E at hn g1 g2
  have h1 : rungOf (fd x) ≤ 4607182418800017408 := hn.le_V (by rw [V_one]; omega)
  have h2 := hn.neg
  have h3 := hn.lt
  have h4 : isNeg (fd x) = false := by
    rw [h2]; by_cases hE : E = 0
    · rw [if_pos hE]
    · rw [if_neg hE, decide_eq_false_iff_not]; omega
  rw [isNeg_iff h3, decide_eq_false_iff_not] at h4
  obtain ⟨_, h5⟩ := rung_small (x := fd x) (by omega)
  omega
theorem order_small {a b : Nat} (ha : a ≤ 9218868437227405312) (hb : b ≤ 9218868437227405312) : FloatKind.f64.format.order a b = some (compare a b) := by
  obtain ⟨_, b1⟩ := rung_small (show a < 9223372036854775808 by omega)
  obtain ⟨_, b2⟩ := rung_small (show b < 9223372036854775808 by omega)
  rw [fmt64, order_nn (by rw [b1]; exact ha) (by rw [b2]; exact hb), sval_pos (by omega), sval_pos (by omega)]
  rcases Nat.lt_trichotomy a b with h | h | h
  · rw [Int.compare_eq_lt.2 (by have := V_lt h; omega), Nat.compare_eq_lt.2 h]
  · subst h; rw [Int.compare_eq_eq.2 rfl, Nat.compare_eq_eq.2 rfl]
  · rw [Int.compare_eq_gt.2 (by have := V_lt h; omega), Nat.compare_eq_gt.2 h]
theorem ph_facts {x : Nat} (h : reg x = true) : ph x < 4607182418800017408 := by
  have h1 := fd_facts h
  unfold ph
  rw [if_pos h]
  rcases hc : cutF x with _ | _
  · simp only [Bool.false_eq_true, if_false]
    unfold cutF at hc
    rw [order_small (by omega) (by omega), Bool.or_eq_false_iff, Bool.or_eq_false_iff] at hc
    have h2 := hc.1.2
    rw [beq_eq_false_iff_ne, ne_eq, Option.some.injEq, Nat.compare_eq_eq] at h2
    omega
  · simp
/-- the age -/
def ag (x : Nat) : Nat := if reg x then (Ieee.double.mul (ph x) 4629005339494030828).getD 0 else 9221120237041090561
theorem ag_spec {x : Nat} (h : reg x = true) : Ieee.double.mul (ph x) 4629005339494030828 = some (ag x) ∧ ag x < 4629005339494030828 ∧ (ph x = 0 ↔ ag x = 0) := by
  have hp := ph_facts h
  obtain ⟨s1, s2⟩ := rung_small (x := ph x) (by omega)
  obtain ⟨t1, t2⟩ := rung_small (x := 4629005339494030828) (by omega)
  obtain ⟨g, e, _, hl, hs, l1, l2, _⟩ := mul_some (x := ph x) (y := 4629005339494030828) (by omega) (by omega)
  have : ag x = g := by unfold ag; rw [if_pos h, e]; rfl
  rw [this]
  rw [s1, t1] at hs
  rw [s2, t2] at l1 l2
  have hs' : isNeg g = false := hs
  rw [isNeg_iff hl, decide_eq_false_iff_not] at hs'
  obtain ⟨_, g2⟩ := rung_small (x := g) (by omega)
  rw [g2] at l1 l2
  refine ⟨e, ?_, ?_⟩
  · have h1 : g ≤ 4629005339494030827 := by
      apply l1
      have h2 : V (ph x) ≤ V 4607182418800017407 := V_le (by omega)
      have h3 : 2 * (V 4607182418800017407 * V 4629005339494030828) < (V 4629005339494030827 + V (4629005339494030827 + 1)) * U := by
        rw [U_eq]; decide +kernel
      have h4 := Nat.mul_le_mul_right (V 4629005339494030828) h2
      omega
    omega
  · constructor
    · intro h0
      have : g ≤ 0 := by
        apply l1
        rw [h0, V_zero, Nat.zero_mul, Nat.zero_add]
        have := Nat.mul_lt_mul_of_pos_right (V_succ 0) U_pos
        omega
      omega
    · intro h0
      rcases Nat.eq_zero_or_pos (ph x) with h1 | h1
      · exact h1
      · exfalso
        have : 0 + 1 ≤ g := by
          apply l2 0 (by omega)
          have h2 : V 1 ≤ V (ph x) := V_le h1
          have h3 : (V 0 + V (0 + 1)) * U < 2 * (V 1 * V 4629005339494030828) := by rw [U_eq]; decide +kernel
          have h4 := Nat.mul_le_mul_right (V 4629005339494030828) h2
          omega
        omega
set_option maxHeartbeats 400000 in
theorem age_yes (x : Nat) (w : World) (h : reg x = true) : Calls Try.prog 17 #[.float .f64 x] w fun e w' => e = .returned (.float .f64 (ag x)) ∧ Below w.heap.size w w' := by
  have H1 : ∀ t w, (binOp .mul t (.float .f64 (ph x)) (.float .f64 4629005339494030828)).run Try.prog w = .ok (.float .f64 (ag x)) w := fun t w => run_float_arith w .mul t .f64 _ _ _ (ag_spec h).1
  have hp := ph_facts h
  have Hn : nanB (ph x) = false := by
    rw [nanB_iff]; unfold Proper; obtain ⟨_, s2⟩ := rung_small (x := ph x) (by omega); omega
  clear h hp
  go_enter Try.func17, Try.ntmps17
  go_wp2_with first
    | (go_at_call 16; refine (phase_c _ _).mono ?_; rintro e w' ⟨rfl, HB⟩)
    | (go_at_call 19; refine (isnan_c _ _).mono ?_; rintro e w' ⟨rfl, rfl⟩; rw [Hn])
  all_goals go_ret
  all_goals exact ⟨rfl, HB⟩
set_option maxHeartbeats 400000 in
theorem age_no (x : Nat) (w : World) (h : reg x = false) : Calls Try.prog 17 #[.float .f64 x] w fun e w' => e = .returned (.float .f64 9221120237041090561) ∧ Below w.heap.size w w' := by
  have HR := Lib.hid h
  have Hn : nanB 9221120237041090561 = true := by decide
  clear h
  go_enter Try.func17, Try.ntmps17
  go_wp2_with first
    | (go_at_call 16; refine (phase_no _ _ HR.out).mono ?_; rintro e w' ⟨rfl, HB⟩)
    | (go_at_call 19; refine (isnan_c _ _).mono ?_; rintro e w' ⟨rfl, rfl⟩; rw [Hn])
  all_goals go_ret
  all_goals exact ⟨rfl, HB⟩
theorem age_c (x : Nat) (w : World) : Calls Try.prog 17 #[.float .f64 x] w fun e w' => e = .returned (.float .f64 (ag x)) ∧ Below w.heap.size w w' := by
  rcases h : reg x with _ | _
  · have : ag x = 9221120237041090561 := by unfold ag; rw [h]; rfl
    rw [this]; exact age_no x w h
  · exact age_yes x w h
end Go.Proofs.Ytbaioodjcjbklaa
