/-
  Contracts of the reference's age, new moon, order and class; the walk of the law MeanmoonMatchesReference.
-/
import Derived.Test.YtbaioodjcjbklaaBase12
namespace Go.Proofs.Ytbaioodjcjbklaa
open Go.RowKit
theorem run10b (n : Nat) (w : World) : (callFunc 10 #[.int .u64 (bitsOf n)]).run Try.prog w = .ok (.value (.float .f64 n)) w := by rw [run10, toNat_bitsOf]
set_option maxHeartbeats 1000000 in
theorem rage_c (x : Nat) (w : World) (hx : x < 18446744073709551616) : Calls Try.prog 26 #[.float .f64 x] w fun e w' => e = .returned (.int .u64 (bitsOf (ag x))) ∧ w = w' := by
  have HRg := Lib.hid (fun w => regular_c x w hx)
  rcases hr : reg x with _ | _
  · have HR := Lib.hid hr
    have : bitsOf (ag x) = 9221120237041090561 := by unfold ag; rw [hr, bitsOf_eq]; rfl
    rw [this]
    clear hx hr this
    go_enter Try.func26, Try.ntmps26
    go_wp2_with (go_at_call 18; refine (HRg.out _).mono ?_; rintro e w' ⟨b, ⟨rfl, _⟩, rfl⟩; rw [HR.out])
    all_goals go_ret
    all_goals exact ⟨rfl, rfl⟩
  · have H1 : ∀ t w, (binOp .mul t (.float .f64 (ph x)) (.float .f64 4629005339494030828)).run Try.prog w = .ok (.float .f64 (ag x)) w := fun t w => run_float_arith w .mul t .f64 _ _ _ (ag_spec hr).1
    have HP := Lib.hid (fun w => rphase_c x w hx)
    have HR := Lib.hid hr
    clear hx hr
    generalize ph x = p at *
    generalize ag x = g at *
    go_enter Try.func26, Try.ntmps26
    go_wp2_with first
      | (go_at_call 18; refine (HRg.out _).mono ?_; rintro e w' ⟨b, ⟨rfl, _⟩, rfl⟩; rw [HR.out])
      | (go_at_call 25; refine (HP.out _).mono ?_; rintro e w' ⟨rfl, rfl⟩)
      | go_in
    all_goals go_ret
    all_goals exact ⟨rfl, rfl⟩
set_option maxHeartbeats 400000 in
theorem rnewmoon_c (k : Int) (w : World) (hk : k.natAbs ≤ 9223372036854775808) : Calls Try.prog 27 #[.int .i64 k] w fun e w' => e = .returned (.int .u64 (bitsOf (nm k))) ∧ w = w' := by
  obtain ⟨d, e1, e2, _⟩ := nm_spec k hk
  have H1 : ∀ t w, (binOp .mul t (.float .f64 (floatOfInt .f64 k)) (.float .f64 4629005339494030828)).run Try.prog w = .ok (.float .f64 d) w := fun t w => run_float_arith w .mul t .f64 _ _ _ e1
  have H2 : ∀ t w, (binOp .add t (.float .f64 4694518943220530644) (.float .f64 d)).run Try.prog w = .ok (.float .f64 (nm k)) w := fun t w => run_float_arith w .add t .f64 _ _ _ e2
  have H0 := conv_i64 k
  clear e1 e2 hk
  generalize nm k = m at *
  go_enter Try.func27, Try.ntmps27
  go_wp2
  all_goals go_ret
  all_goals exact ⟨rfl, rfl⟩
theorem bef_cases {x y : Nat} (hx : x < 18446744073709551616) (hy : y < 18446744073709551616) :
    (isNeg x = true ∧ isNeg y = false ∧ befB x y = true) ∨ (isNeg x = false ∧ isNeg y = true ∧ befB x y = false) ∨
    (isNeg x = true ∧ isNeg y = true ∧ decide (bitsOf y < bitsOf x) = befB x y) ∨ (isNeg x = false ∧ isNeg y = false ∧ decide (bitsOf x < bitsOf y) = befB x y) := by
  rw [isNeg_iff hx, isNeg_iff hy, bitsOf_eq, bitsOf_eq]
  unfold befB kkey
  simp only [decide_eq_true_eq, decide_eq_false_iff_not, decide_eq_decide]
  by_cases h1 : x < 9223372036854775808 <;> by_cases h2 : y < 9223372036854775808
  · right; right; right; rw [if_pos h1, if_pos h2]; omega
  · right; left; rw [if_pos h1, if_neg h2]; omega
  · left; rw [if_neg h1, if_pos h2]; omega
  · right; right; left; rw [if_neg h1, if_neg h2]; omega
set_option maxHeartbeats 1000000 in
theorem rbefore_c (x y : Nat) (w : World) (hx : x < 18446744073709551616) (hy : y < 18446744073709551616) : Calls Try.prog 28 #[.float .f64 x, .float .f64 y] w fun e w' => e = .returned (.bool (befB x y)) ∧ w = w' := by
  have PX := Lib.hid (fun w => parts_c x w hx)
  have PY := Lib.hid (fun w => parts_c y w hy)
  rcases bef_cases hx hy with ⟨h1, h2, h3⟩ | ⟨h1, h2, h3⟩ | ⟨h1, h2, h3⟩ | ⟨h1, h2, h3⟩
  all_goals clear hx hy
  all_goals have H1 := Lib.hid h1
  all_goals have H2 := Lib.hid h2
  all_goals have H3 := Lib.hid h3
  all_goals clear h1 h2 h3
  all_goals
    go_enter Try.func28, Try.ntmps28
    go_wp2_with first
      | (go_at_call 46; with_reducible refine (PX.out _).mono ?_; rintro e w' ⟨rfl, rfl⟩; rw [H1.out])
      | (go_at_call 46; with_reducible refine (PY.out _).mono ?_; rintro e w' ⟨rfl, rfl⟩; rw [H2.out])
  all_goals go_ret
  all_goals first
    | exact ⟨ret_bool H3.out.symm, rfl⟩
    | exact ⟨ret_bool H3.out, rfl⟩
    | trace_state
theorem cls_parts (x : Nat) :
    (bitsOf (x / 4503599627370496 % 2048) = 2047 ∧ bitsOf (x % 4503599627370496) ≠ 0 ∧ cls x = 0) ∨
    (bitsOf (x / 4503599627370496 % 2048) = 2047 ∧ bitsOf (x % 4503599627370496) = 0 ∧ cls x = 1) ∨
    (bitsOf (x / 4503599627370496 % 2048) = 0 ∧ bitsOf (x % 4503599627370496) = 0 ∧ cls x = 2) ∨
    (bitsOf (x / 4503599627370496 % 2048) = 0 ∧ bitsOf (x % 4503599627370496) ≠ 0 ∧ cls x = 3) ∨
    (bitsOf (x / 4503599627370496 % 2048) ≠ 2047 ∧ bitsOf (x / 4503599627370496 % 2048) ≠ 0 ∧ cls x = 4) := by
  have hc : cls x = (if 9218868437227405312 < rungOf x then 0 else if rungOf x = 9218868437227405312 then 1 else if rungOf x = 0 then 2 else if rungOf x < 4503599627370496 then 3 else 4) := by
    unfold cls nanB infB; simp only [decide_eq_true_eq]
  rw [hc, bitsOf_eq, bitsOf_eq]
  unfold rungOf
  split
  · left; omega
  · split
    · right; left; omega
    · split
      · right; right; left; omega
      · split
        · right; right; right; left; omega
        · right; right; right; right; omega
set_option maxHeartbeats 1000000 in
theorem rclass_c (x : Nat) (w : World) (hx : x < 18446744073709551616) : Calls Try.prog 29 #[.float .f64 x] w fun e w' => e = .returned (.int .i64 (cls x : Nat)) ∧ w = w' := by
  have PX := Lib.hid (fun w => parts_c x w hx)
  have hc := cls_parts x
  clear hx
  generalize bitsOf (x / 4503599627370496 % 2048) = a at *
  generalize bitsOf (x % 4503599627370496) = b at *
  rcases hc with ⟨h1, h2, h3⟩ | ⟨h1, h2, h3⟩ | ⟨h1, h2, h3⟩ | ⟨h1, h2, h3⟩ | ⟨h1, h2, h3⟩
  all_goals rw [h3]
  all_goals clear h3
  all_goals try subst h1
  all_goals
    go_enter Try.func29, Try.ntmps29
    go_wp2_with (go_at_call 46; with_reducible refine (PX.out _).mono ?_; rintro e w' ⟨rfl, rfl⟩)
  all_goals go_ret
  all_goals exact ⟨rfl, rfl⟩
theorem match_laws (x y : Nat) (k : Int) (hx : x < 18446744073709551616) (hy : y < 18446744073709551616) (hk : k.natAbs ≤ 9223372036854775808) : ∃ (l : Int) (lb : Bool) (r : Int) (rb : Bool) (p g m : Nat) (t : Bool) (c : Nat),
    (∀ w, Calls Try.prog 15 #[.float .f64 x] w fun e w' => e = .returned (.tuple #[.int .i64 l, .bool lb]) ∧ Below w.heap.size w w') ∧
    (∀ w, Calls Try.prog 22 #[.float .f64 x] w fun e w' => e = .returned (.tuple #[.int .i64 l, .bool lb]) ∧ w = w') ∧
    (∀ w, Calls Try.prog 12 #[.float .f64 x] w fun e w' => e = .returned (.tuple #[.int .i64 r, .bool rb]) ∧ w = w') ∧
    (∀ w, Calls Try.prog 23 #[.float .f64 x] w fun e w' => e = .returned (.tuple #[.int .i64 r, .bool rb]) ∧ w = w') ∧
    (∀ w, Calls Try.prog 16 #[.float .f64 x] w fun e w' => e = .returned (.float .f64 p) ∧ Below w.heap.size w w') ∧
    (∀ w, Calls Try.prog 25 #[.float .f64 x] w fun e w' => e = .returned (.int .u64 (bitsOf p)) ∧ w = w') ∧
    (∀ w, Calls Try.prog 17 #[.float .f64 x] w fun e w' => e = .returned (.float .f64 g) ∧ Below w.heap.size w w') ∧
    (∀ w, Calls Try.prog 26 #[.float .f64 x] w fun e w' => e = .returned (.int .u64 (bitsOf g)) ∧ w = w') ∧
    (∀ w, Calls Try.prog 14 #[.int .i64 k] w fun e w' => e = .returned (.float .f64 m) ∧ w = w') ∧
    (∀ w, Calls Try.prog 27 #[.int .i64 k] w fun e w' => e = .returned (.int .u64 (bitsOf m)) ∧ w = w') ∧
    (∀ w, Calls Try.prog 11 #[.float .f64 x, .float .f64 y] w fun e w' => e = .returned (.bool t) ∧ w = w') ∧
    (∀ w, Calls Try.prog 28 #[.float .f64 x, .float .f64 y] w fun e w' => e = .returned (.bool t) ∧ w = w') ∧
    (∀ w, Calls Try.prog 13 #[.float .f64 x] w fun e w' => e = .returned (.int .i64 (c : Nat)) ∧ Below w.heap.size w w') ∧
    (∀ w, Calls Try.prog 29 #[.float .f64 x] w fun e w' => e = .returned (.int .i64 (c : Nat)) ∧ w = w') :=
  ⟨_, _, _, _, _, _, _, _, _, fun w => lun_c x w, fun w => rlun_c x w hx, fun w => round_c x w hx, fun w => rround_c x w hx, fun w => phase_c x w, fun w => rphase_c x w hx, fun w => age_c x w, fun w => rage_c x w hx,
    fun w => newmoon_c k w hk, fun w => rnewmoon_c k w hk, fun w => before_c x y w (Lib.hid hx) (Lib.hid hy), fun w => rbefore_c x y w hx hy, fun w => class_c x w hx, fun w => rclass_c x w hx⟩
set_option maxRecDepth 100000 in
set_option maxHeartbeats 2000000 in
theorem match_w (x y : Nat) (k : Int) (w : World) (hx : x < 18446744073709551616) (hy : y < 18446744073709551616) (hk : k.natAbs ≤ 9223372036854775808) : Calls Try.prog 8 #[.int .u64 (bitsOf x), .int .u64 (bitsOf y), .int .i64 k] w fun e w' => e = .returned (.bool true) ∧ Below w.heap.size w w' := by
  obtain ⟨l, lb, r, rb, p, g, m, t, c, c15, c22, c12, c23, c16, c25, c17, c26, c14, c27, c11, c28, c13, c29⟩ := match_laws x y k hx hy hk
  have h15 := Lib.hid c15
  have h22 := Lib.hid c22
  have h12 := Lib.hid c12
  have h23 := Lib.hid c23
  have h16 := Lib.hid c16
  have h25 := Lib.hid c25
  have h17 := Lib.hid c17
  have h26 := Lib.hid c26
  have h14 := Lib.hid c14
  have h27 := Lib.hid c27
  have h11 := Lib.hid c11
  have h28 := Lib.hid c28
  have h13 := Lib.hid c13
  have h29 := Lib.hid c29
  clear hx hy hk c15 c22 c12 c23 c16 c25 c17 c26 c14 c27 c11 c28 c13 c29
  go_enter Try.func8, Try.ntmps8
  go_wp2_with first
    | (go_at_call 9; refine (awake_c _).mono ?_; rintro e w1 ⟨rfl, hA⟩)
    | (go_at_call 15; refine (h15.out _).mono ?_; rintro e w1 ⟨rfl, hB⟩)
    | (go_at_call 22; refine (h22.out _).mono ?_; rintro e w1 ⟨rfl, rfl⟩)
    | (go_at_call 12; refine (h12.out _).mono ?_; rintro e w1 ⟨rfl, rfl⟩)
    | (go_at_call 23; refine (h23.out _).mono ?_; rintro e w1 ⟨rfl, rfl⟩)
    | (go_at_call 16; refine (h16.out _).mono ?_; rintro e w1 ⟨rfl, hC⟩)
    | (go_at_call 25; refine (h25.out _).mono ?_; rintro e w1 ⟨rfl, rfl⟩)
    | (go_at_call 17; refine (h17.out _).mono ?_; rintro e w1 ⟨rfl, hD⟩)
    | (go_at_call 26; refine (h26.out _).mono ?_; rintro e w1 ⟨rfl, rfl⟩)
    | (go_at_call 14; refine (h14.out _).mono ?_; rintro e w1 ⟨rfl, rfl⟩)
    | (go_at_call 27; refine (h27.out _).mono ?_; rintro e w1 ⟨rfl, rfl⟩)
    | (go_at_call 11; refine (h11.out _).mono ?_; rintro e w1 ⟨rfl, rfl⟩)
    | (go_at_call 28; refine (h28.out _).mono ?_; rintro e w1 ⟨rfl, rfl⟩)
    | (go_at_call 13; refine (h13.out _).mono ?_; rintro e w1 ⟨rfl, hE⟩)
    | (go_at_call 29; refine (h29.out _).mono ?_; rintro e w1 ⟨rfl, rfl⟩)
    | go_in
  all_goals first
    | (go_ret; exact ⟨rfl, chain (chain (chain (chain hA hB) hC) hD) hE⟩)
    | trace_state
end Go.Proofs.Ytbaioodjcjbklaa
