/-
  Contracts of the reference implementation (rounding, lunation, phase, age, new moon, order, class): the same values as the implementation.
-/
import Derived.Test.YtbaioodjcjbklaaBase11
namespace Go.Proofs.Ytbaioodjcjbklaa
open Go.RowKit
theorem iway_bd {x : Nat} (way : Ieee.Toward) (h : rungOf x < 4886405595696988160) : -4611686018427387904 ≤ iway way x ∧ iway way x ≤ 4611686018427387904 := by
  have h1 := V_lt h
  rw [V_62] at h1
  have h2 : V (rungOf x) / U < 4611686018427387904 := (Nat.div_lt_iff_lt_mul U_pos).2 h1
  have h3 := cutq_le way (isNeg x) (V (rungOf x)) U
  have h4 := natAbs_iway way x
  generalize cutq way (isNeg x) (V (rungOf x)) U = c at *
  generalize V (rungOf x) / U = d at *
  omega
theorem rflo_conv {x : Nat} (h : rungOf x < 4886405595696988160) (hl : x < 18446744073709551616) : floatToIntVal .f64 (rflo x) .i64 = some (iway .down x) := by
  obtain ⟨hs, hf, _⟩ := rflo_spec (x := x) (by omega) hl
  have hb := iway_bd .down h
  have hU := U_pos
  rw [sval_eq] at hs
  generalize iway .down x = n at *
  have hv : V (rungOf (rflo x)) = n.natAbs * U := by
    have h1 : (dsign (isNeg (rflo x)) (V (rungOf (rflo x)))).natAbs = V (rungOf (rflo x)) := by unfold dsign; split <;> omega
    rw [← h1, hs, Int.natAbs_mul, Int.natAbs_natCast]
  have hlt : n.natAbs * U < 9223372036854775808 * U := Nat.mul_lt_mul_of_pos_right (by omega) hU
  rw [to_i64 hf (by rw [hv]; exact hlt), hv, Nat.mul_div_cancel _ hU]
  congr 1
  rw [hv] at hs
  have h2 : dsign (isNeg (rflo x)) (n.natAbs * U) = dsign (isNeg (rflo x)) n.natAbs * U := by
    unfold dsign; split
    · rw [Int.natCast_mul, Int.neg_mul]
    · rw [Int.natCast_mul]
  rw [h2] at hs
  exact Int.eq_of_mul_eq_mul_right (by omega) hs
theorem okR_no {x : Nat} (h : finB x = false) : okR x = false := by
  unfold finB okR at *; rw [decide_eq_false_iff_not] at *; omega
set_option maxHeartbeats 1000000 in
theorem rround_c (x : Nat) (w : World) (hx : x < 18446744073709551616) : Calls Try.prog 23 #[.float .f64 x] w fun e w' => e = .returned (.tuple #[.int .i64 (if okR x then rint x else 0), .bool (okR x)]) ∧ w = w' := by
  have HX := Lib.hid hx
  rcases hf : finB x with _ | _
  · have ho := okR_no hf
    rw [ho]
    have HF := Lib.hid hf
    clear hx hf ho
    go_enter Try.func23, Try.ntmps23
    go_wp2_with (go_at_call 44; refine (finite_c _ _ HX.out).mono ?_; rintro e w' ⟨rfl, rfl⟩; rw [HF.out])
    all_goals exact bodyPost_ret (v := .tuple #[.int .i64 0, .bool false]) (by simp [results, Try.results23, go_sem]) rfl ⟨rfl, rfl⟩
  · have hfin : rungOf x < 9218868437227405312 := by unfold finB at hf; rwa [decide_eq_true_eq] at hf
    have HF := Lib.hid hf
    have HFin := Lib.hid hfin
    rcases ho : okR x with _ | _
    · have hg : 4886405595696988160 ≤ rungOf x := by unfold okR at ho; rw [decide_eq_false_iff_not] at ho; omega
      rcases hs : isNeg x with _ | _
      · have G := big_pos hg (by omega) hs
        clear hx hf hfin ho hg hs
        go_enter Try.func23, Try.ntmps23
        go_wp2_with (go_at_call 44; refine (finite_c _ _ HX.out).mono ?_; rintro e w' ⟨rfl, rfl⟩; rw [HF.out])
        all_goals exact bodyPost_ret (v := .tuple #[.int .i64 0, .bool false]) (by simp [results, Try.results23, go_sem]) rfl ⟨rfl, rfl⟩
      · obtain ⟨G1, G2, G3⟩ := big_neg hg (by omega) (by decide) hs
        clear hx hf hfin ho hg hs
        go_enter Try.func23, Try.ntmps23
        go_wp2_with (go_at_call 44; refine (finite_c _ _ HX.out).mono ?_; rintro e w' ⟨rfl, rfl⟩; rw [HF.out])
        all_goals exact bodyPost_ret (v := .tuple #[.int .i64 0, .bool false]) (by simp [results, Try.results23, go_sem]) rfl ⟨rfl, rfl⟩
    · have hk : rungOf x < 4886405595696988160 := by unfold okR at ho; rwa [decide_eq_true_eq] at ho
      obtain ⟨G1, G2, G3, G4⟩ := big_no hk (by omega)
      have HC := conv_run (rflo_conv hk hx)
      obtain ⟨d, e, hd⟩ := rfl_round hk hx
      have H1 : ∀ t w, (binOp .sub t (.float .f64 x) (.float .f64 (rflo x))).run Try.prog w = .ok (.float .f64 d) w := fun t w => run_float_arith w .sub t .f64 _ _ _ e
      have hb := iway_bd .down hk
      have HW : wrap64 (iway .down x + 1) = iway .down x + 1 := by
        generalize iway .down x = n at *
        unfold wrap64; omega
      have HFl := Lib.hid (fun w => rfloor_c x w hfin)
      clear hx hf hfin ho hk e hb HFin
      simp only [if_true]
      generalize rflo x = f at *
      generalize iway .down x = n at *
      generalize rint x = m at *
      rcases hd with ⟨d1, rfl⟩ | ⟨d1, d2, d3, rfl⟩ | ⟨d1, d2, d3, rfl⟩ | ⟨d1, d2, rfl⟩
      all_goals
        go_enter Try.func23, Try.ntmps23
        go_wp2_with first
          | (go_at_call 44; refine (finite_c _ _ HX.out).mono ?_; rintro e w' ⟨rfl, rfl⟩; rw [HF.out])
          | (go_at_call 45; refine (HFl.out _).mono ?_; rintro e w' ⟨rfl, rfl⟩)
      all_goals exact bodyPost_ret (v := .tuple #[.int .i64 _, .bool true]) (by simp [results, Try.results23, go_sem]; try exact HW) rfl ⟨rfl, rfl⟩
set_option maxHeartbeats 1000000 in
theorem rlun_c (x : Nat) (w : World) (hx : x < 18446744073709551616) : Calls Try.prog 22 #[.float .f64 x] w fun e w' => e = .returned (.tuple #[.int .i64 (if lunB x then iway .down (qq x) else 0), .bool (lunB x)]) ∧ w = w' := by
  have HX := Lib.hid hx
  have HRg := Lib.hid (fun w => regular_c x w hx)
  unfold lunB
  rcases hr : reg x with _ | _
  · have HR := Lib.hid hr
    clear hx hr
    go_enter Try.func22, Try.ntmps22
    go_wp2_with (go_at_call 18; refine (HRg.out _).mono ?_; rintro e w' ⟨b, ⟨rfl, _⟩, rfl⟩; rw [HR.out])
    all_goals exact bodyPost_ret (v := .tuple #[.int .i64 0, .bool false]) (by simp [results, Try.results22, go_sem]) rfl ⟨rfl, rfl⟩
  · obtain ⟨_, _, hf, hl⟩ := reg_spec hr
    have HR := Lib.hid hr
    have HRg2 := Lib.hid (fun w => (regular_c x w hx).mono (R' := fun e w' => e = .returned (.tuple #[.float .f64 (qq x), .bool true]) ∧ w = w') (fun e w' ⟨b, ⟨h1, h2⟩, h3⟩ => by rw [h1, hr, h2 hr]; exact ⟨rfl, h3⟩))
    have HFl := Lib.hid (fun w => rfloor_c (qq x) w hf)
    have HC1 := fun h => rflo_conv (x := qq x) h hl
    clear hx hr HRg
    generalize qq x = q at *
    generalize rflo q = f at *
    simp only [Bool.true_and]
    by_cases hg : rungOf q < 4845873199050653696
    · obtain ⟨G1, G2, G3, G4⟩ := big_no hg (by omega)
      have HC := conv_run (HC1 (by omega))
      rw [decide_eq_true hg]
      clear hg HC1 hf hl
      go_enter Try.func22, Try.ntmps22
      go_wp2_with first
        | (go_at_call 18; refine (HRg2.out _).mono ?_; rintro e w' ⟨rfl, rfl⟩)
        | (go_at_call 45; refine (HFl.out _).mono ?_; rintro e w' ⟨rfl, rfl⟩)
      all_goals exact bodyPost_ret (v := .tuple #[.int .i64 _, .bool true]) (by simp [results, Try.results22, go_sem]; try rfl) rfl ⟨rfl, rfl⟩
    · rw [decide_eq_false hg]
      rcases hs : isNeg q with _ | _
      · have G := big_pos (Nat.le_of_not_lt hg) (by omega) hs
        clear hg HC1 hf hl hs
        go_enter Try.func22, Try.ntmps22
        go_wp2_with (go_at_call 18; refine (HRg2.out _).mono ?_; rintro e w' ⟨rfl, rfl⟩)
        all_goals exact bodyPost_ret (v := .tuple #[.int .i64 0, .bool false]) (by simp [results, Try.results22, go_sem]) rfl ⟨rfl, rfl⟩
      · obtain ⟨G1, G2, G3⟩ := big_neg (Nat.le_of_not_lt hg) (by omega) (by decide) hs
        clear hg HC1 hf hl hs
        go_enter Try.func22, Try.ntmps22
        go_wp2_with (go_at_call 18; refine (HRg2.out _).mono ?_; rintro e w' ⟨rfl, rfl⟩)
        all_goals exact bodyPost_ret (v := .tuple #[.int .i64 0, .bool false]) (by simp [results, Try.results22, go_sem]) rfl ⟨rfl, rfl⟩
theorem order_nought {f : Nat} (h : rungOf f = 0) : FloatKind.f64.format.order f 4607182418800017408 = some .lt ∧ FloatKind.f64.format.order f 0 = some .eq := by
  have hs : sval f = 0 := by rw [sval_eq, h, V_zero]; unfold dsign; split <;> rfl
  have h1 : (0 : Int) < V 4607182418800017408 := by rw [V_one]; have := U_pos; omega
  rw [fmt64, order_nn (by omega) (by decide), order_nn (by omega) (by decide), hs, sval_pos (x := 4607182418800017408) (by omega), show sval 0 = 0 by decide, Int.compare_eq_lt.2 h1]
  exact ⟨rfl, rfl⟩
/-- the reference's difference of the phase -/
theorem rphase_laws {x : Nat} (hr : reg x = true) : ∃ f, Ieee.double.sub (qq x) (rflo (qq x)) = some f ∧
    (((FloatKind.f64.format.order f 4607182418800017408 == some Ordering.gt || FloatKind.f64.format.order f 4607182418800017408 == some Ordering.eq) = true ∧ ph x = 0) ∨
     ((FloatKind.f64.format.order f 4607182418800017408 == some Ordering.gt) = false ∧ (FloatKind.f64.format.order f 4607182418800017408 == some Ordering.eq) = false ∧ (FloatKind.f64.format.order f 0 == some Ordering.eq) = true ∧ ph x = 0) ∨
     ((FloatKind.f64.format.order f 4607182418800017408 == some Ordering.gt) = false ∧ (FloatKind.f64.format.order f 4607182418800017408 == some Ordering.eq) = false ∧ (FloatKind.f64.format.order f 0 == some Ordering.eq) = false ∧ ph x = f)) := by
  obtain ⟨_, _, hf, hl⟩ := reg_spec hr
  obtain ⟨e1, hd1⟩ := fd_spec hr
  obtain ⟨s1, s2, s3⟩ := rflo_spec hf hl
  unfold ph
  rw [if_pos hr]
  by_cases hz : isNeg (qq x) = false ∨ rungOf (qq x) ≠ 0
  · rw [s3 hz]
    refine ⟨fd x, e1, ?_⟩
    unfold cutF
    rcases hg : (FloatKind.f64.format.order (fd x) 4607182418800017408 == some Ordering.gt || FloatKind.f64.format.order (fd x) 4607182418800017408 == some Ordering.eq) with _ | _
    · right
      rw [Bool.or_eq_false_iff] at hg
      rcases h0 : (FloatKind.f64.format.order (fd x) 0 == some Ordering.eq) with _ | _
      · right; exact ⟨hg.1, hg.2, rfl, rfl⟩
      · left; exact ⟨hg.1, hg.2, rfl, rfl⟩
    · left; exact ⟨rfl, rfl⟩
  · have h0 : rungOf (qq x) = 0 := by
      rcases Nat.eq_zero_or_pos (rungOf (qq x)) with h | h
      · exact h
      · exact absurd (Or.inr (by omega)) hz
    have hs0 : sval (qq x) = 0 := by rw [sval_eq, h0, V_zero]; unfold dsign; split <;> rfl
    have hi : iway .down (qq x) = 0 := by
      unfold iway; rw [h0, V_zero]
      unfold dsign cutq
      rw [Nat.zero_div, Nat.zero_mod]
      cases isNeg (qq x) <;> rfl
    rw [sval_down hf, hs0, hi, Int.zero_mul] at hd1
    rw [hi, Int.zero_mul] at s1
    obtain ⟨f, e2, hd2⟩ := sub_near (x := qq x) (y := rflo (qq x)) hf s2
    rw [s1, hs0] at hd2
    have r1 : rungOf (fd x) = 0 := hd1.exact (r := 0) (by omega) (by rw [V_zero]; rfl)
    have r2 : rungOf f = 0 := hd2.exact (r := 0) (by omega) (by rw [V_zero]; rfl)
    obtain ⟨o1, o2⟩ := order_nought r1
    obtain ⟨o3, o4⟩ := order_nought r2
    refine ⟨f, e2, Or.inr (Or.inl ?_)⟩
    rw [o3, o4]
    unfold cutF
    rw [o1, o2]
    exact ⟨by decide, by decide, by decide, rfl⟩
set_option maxHeartbeats 1000000 in
theorem rphase_c (x : Nat) (w : World) (hx : x < 18446744073709551616) : Calls Try.prog 25 #[.float .f64 x] w fun e w' => e = .returned (.int .u64 (bitsOf (ph x))) ∧ w = w' := by
  rcases hr : reg x with _ | _
  · have HRg := Lib.hid (fun w => regular_c x w hx)
    have HR := Lib.hid hr
    have : bitsOf (ph x) = 9221120237041090561 := by unfold ph; rw [hr, bitsOf_eq]; rfl
    rw [this]
    clear hx hr this
    go_enter Try.func25, Try.ntmps25
    go_wp2_with (go_at_call 18; refine (HRg.out _).mono ?_; rintro e w' ⟨b, ⟨rfl, _⟩, rfl⟩; rw [HR.out])
    all_goals go_ret
    all_goals exact ⟨rfl, rfl⟩
  · obtain ⟨_, _, hf, hl⟩ := reg_spec hr
    obtain ⟨f, e, hc⟩ := rphase_laws hr
    have H1 : ∀ t w, (binOp .sub t (.float .f64 (qq x)) (.float .f64 (rflo (qq x)))).run Try.prog w = .ok (.float .f64 f) w := fun t w => run_float_arith w .sub t .f64 _ _ _ e
    have HRg2 := Lib.hid (fun w => (regular_c x w hx).mono (R' := fun e w' => e = .returned (.tuple #[.float .f64 (qq x), .bool true]) ∧ w = w') (fun e w' ⟨b, ⟨h1, h2⟩, h3⟩ => by rw [h1, hr, h2 hr]; exact ⟨rfl, h3⟩))
    have HFl := Lib.hid (fun w => rfloor_c (qq x) w hf)
    clear hx hr hf hl e
    generalize rflo (qq x) = g at *
    generalize qq x = q at *
    generalize ph x = p at *
    rcases hc with ⟨c1, rfl⟩ | ⟨c1, c2, c3, rfl⟩ | ⟨c1, c2, c3, rfl⟩
    · have hz : bitsOf 0 = 0 := by rw [bitsOf_eq]; rfl
      rw [hz]
      go_enter Try.func25, Try.ntmps25
      go_wp2_with first
        | (go_at_call 18; refine (HRg2.out _).mono ?_; rintro e w' ⟨rfl, rfl⟩)
        | (go_at_call 45; refine (HFl.out _).mono ?_; rintro e w' ⟨rfl, rfl⟩)
      all_goals go_ret
      all_goals exact ⟨rfl, rfl⟩
    · have hz : bitsOf 0 = 0 := by rw [bitsOf_eq]; rfl
      rw [hz]
      go_enter Try.func25, Try.ntmps25
      go_wp2_with first
        | (go_at_call 18; refine (HRg2.out _).mono ?_; rintro e w' ⟨rfl, rfl⟩)
        | (go_at_call 45; refine (HFl.out _).mono ?_; rintro e w' ⟨rfl, rfl⟩)
      all_goals go_ret
      all_goals exact ⟨rfl, rfl⟩
    · go_enter Try.func25, Try.ntmps25
      go_wp2_with first
        | (go_at_call 18; refine (HRg2.out _).mono ?_; rintro e w' ⟨rfl, rfl⟩)
        | (go_at_call 45; refine (HFl.out _).mono ?_; rintro e w' ⟨rfl, rfl⟩)
      all_goals go_ret
      all_goals exact ⟨rfl, rfl⟩
end Go.Proofs.Ytbaioodjcjbklaa
