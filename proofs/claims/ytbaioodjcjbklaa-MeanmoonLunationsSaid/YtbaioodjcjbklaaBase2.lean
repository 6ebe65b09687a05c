/-
  Contracts of the functions of package meanmoon (rounding, quotient, lunation, phase, age, new moon), for all double-precision words.
-/
import Derived.Test.YtbaioodjcjbklaaBase
import Derived.Test.YtbaioodjcjbklaaFl4
import Derived.WalkKit
import Derived.WalkSmall
import Derived.BigQuiet
import Derived.Deep.QuietTactic
import Derived.Deep.DeepFit
import Derived.WalkLawsBesides
import Derived.Laws.FloatArith
import Derived.Lib.Hide
import Derived.LoopTactic
namespace Go.Proofs.Ytbaioodjcjbklaa
open Go.RowKit
theorem ret_ib {k : IntKind} {a b : Int} {c d : Bool} (h : a = b) (g : c = d) : Ending.returned (.tuple #[.int k a, .bool c]) = .returned (.tuple #[.int k b, .bool d]) := by rw [h, g]
/-- rounding's test -/
def okR (x : Nat) : Bool := decide (rungOf x < 4886405595696988160)
/-- the nearest whole number -/
def rmag (x : Nat) : Nat := cutq .even (isNeg x) (V (rungOf x)) U
def rint (x : Nat) : Int := dsign (isNeg x) (rmag x)
theorem okR_proper {x : Nat} (h : okR x = true) : Proper x := by
  unfold okR at h; rw [decide_eq_true_eq] at h; unfold Proper; omega
theorem geq_test {x c : Nat} (hx : rungOf x ≤ 9218868437227405312) (hc : c ≤ 9218868437227405312) : FloatKind.f64.format.order (rungOf x) c = some (compare (V (rungOf x) : Int) (V c : Int)) := by
  have hl : rungOf x < 9223372036854775808 := Nat.mod_lt _ (by omega)
  obtain ⟨_, b⟩ := rung_small hl
  obtain ⟨_, b2⟩ := rung_small (show c < 9223372036854775808 by omega)
  rw [fmt64, order_nn (by rw [b]; exact hx) (by rw [b2]; exact hc), sval_pos hl, sval_pos (by omega)]

theorem nanB_of {x : Nat} (h : Proper x) : nanB x = false := by unfold nanB Proper at *; simp; exact h

theorem conv_run {b : Nat} {n : Int} (h : floatToIntVal .f64 b .i64 = some n) (w : World) : (convert 24 3 (.float .f64 b)).run Try.prog w = .ok (.int .i64 n) w :=
  run_convert_float_int w 24 3 .f64 .i64 b n (by kernel_rfl) (by kernel_rfl) h
theorem rnd_conv {x : Nat} (h : okR x = true) : floatToIntVal .f64 (vInt .even x) .i64 = some (rint x) := by
  have hk : rungOf x < 4886405595696988160 := by unfold okR at h; rwa [decide_eq_true_eq] at h
  obtain ⟨r, e, hv, hr⟩ := int_parts .even (x := x) (by omega)
  obtain ⟨p1, p2, _⟩ := word_parts (s := isNeg x) (show r < 9223372036854775808 by omega)
  have hle : V r ≤ 4611686018427387904 * U := by
    have h1 := V_lt hk
    rw [V_62] at h1
    have h2 : V (rungOf x) / U < 4611686018427387904 := (Nat.div_lt_iff_lt_mul U_pos).2 h1
    have h3 := cutq_le .even (isNeg x) (V (rungOf x)) U
    rw [hv]
    exact Nat.mul_le_mul_right _ (by omega)
  have hU := U_pos
  rw [e, to_i64 (by rw [p2]; exact hr) (by rw [p2]; omega), p1, p2, hv, Nat.mul_div_cancel _ hU]
  rfl
theorem geq_no {x c : Nat} (h : rungOf x < c) (hc : c ≤ 9218868437227405312) : (FloatKind.f64.format.order (rungOf x) c == some Ordering.gt) = false ∧ (FloatKind.f64.format.order (rungOf x) c == some Ordering.eq) = false := by
  have := V_lt h
  rw [geq_test (by omega) hc, Int.compare_eq_lt.2 (by omega)]
  decide
theorem geq_yes {x c : Nat} (h : c ≤ rungOf x) (hx : rungOf x ≤ 9218868437227405312) : (FloatKind.f64.format.order (rungOf x) c == some Ordering.gt || FloatKind.f64.format.order (rungOf x) c == some Ordering.eq) = true := by
  have := V_le h
  rw [geq_test hx (by omega)]
  rcases Nat.lt_or_eq_of_le this with h | h
  · rw [Int.compare_eq_gt.2 (by omega)]; rfl
  · rw [Int.compare_eq_eq.2 (by omega)]; rfl
set_option maxHeartbeats 400000 in
theorem round_yes (x : Nat) (w : World) (hx : x < 18446744073709551616) (h : okR x = true) : Calls Try.prog 12 #[.float .f64 x] w fun e w' => e = .returned (.tuple #[.int .i64 (rint x), .bool true]) ∧ w = w' := by
  have HX := Lib.hid hx
  have Hp := okR_proper h
  have H36 := run36 Hp
  have Hn := nanB_of Hp
  have Hc := conv_run (rnd_conv h)
  have ⟨G1, G2⟩ := geq_no (x := x) (c := 4886405595696988160) (by unfold okR at h; rwa [decide_eq_true_eq] at h) (by omega)
  clear hx Hp h
  go_enter Try.func12, Try.ntmps12
  go_wp2_with first
    | (go_at_call 19; refine (isnan_c _ _).mono ?_; rintro e w' ⟨rfl, rfl⟩; rw [Hn])
    | (go_at_call 35; refine (abs_c _ _ HX.out).mono ?_; rintro e w' ⟨rfl, rfl⟩)
  all_goals exact bodyPost_ret (v := .tuple #[.int .i64 (rint x), .bool true]) (by simp [results, Try.results12, go_sem]) rfl ⟨rfl, rfl⟩
set_option maxHeartbeats 400000 in
theorem round_no (x : Nat) (w : World) (hx : x < 18446744073709551616) (h : okR x = false) : Calls Try.prog 12 #[.float .f64 x] w fun e w' => e = .returned (.tuple #[.int .i64 0, .bool false]) ∧ w = w' := by
  have HX := Lib.hid hx
  rcases hn : nanB x with _ | _
  · have G := geq_yes (x := x) (c := 4886405595696988160) (by unfold okR at h; rw [decide_eq_false_iff_not] at h; omega) (by unfold nanB at hn; rw [decide_eq_false_iff_not] at hn; omega)
    clear hx h
    go_enter Try.func12, Try.ntmps12
    go_wp2_with first
      | (go_at_call 19; refine (isnan_c _ _).mono ?_; rintro e w' ⟨rfl, rfl⟩; rw [hn])
      | (go_at_call 35; refine (abs_c _ _ HX.out).mono ?_; rintro e w' ⟨rfl, rfl⟩)
    all_goals first
      | exact bodyPost_ret (v := .tuple #[.int .i64 0, .bool false]) (by simp [results, Try.results12, go_sem]) rfl ⟨rfl, rfl⟩
      | trace_state
  · clear hx h
    go_enter Try.func12, Try.ntmps12
    go_wp2_with first
      | (go_at_call 19; refine (isnan_c _ _).mono ?_; rintro e w' ⟨rfl, rfl⟩; rw [hn])
      | (go_at_call 35; refine (abs_c _ _ HX.out).mono ?_; rintro e w' ⟨rfl, rfl⟩)
    all_goals exact bodyPost_ret (v := .tuple #[.int .i64 0, .bool false]) (by simp [results, Try.results12, go_sem]) rfl ⟨rfl, rfl⟩
theorem round_c (x : Nat) (w : World) (hx : x < 18446744073709551616) : Calls Try.prog 12 #[.float .f64 x] w fun e w' => e = .returned (.tuple #[.int .i64 (if okR x then rint x else 0), .bool (okR x)]) ∧ w = w' := by
  rcases h : okR x with _ | _
  · exact round_no x w hx h
  · exact round_yes x w hx h

/-- a NaN that the machine chooses -/
def tapeNaN (w : World) (a b : Nat) : Nat := Question.cut (.nanBits .f64 a b) (w.tape w.drawn (.nanBits .f64 a b))
theorem tapeNaN_nan (w : World) (a b : Nat) : ¬ Proper (tapeNaN w a b) ∧ tapeNaN w a b < 18446744073709551616 := by
  have h : ∀ t : Nat, ¬ Proper ((t % 2) * 2 ^ 63 + 0x7ff0000000000000 + 1 + (t / 2) % (2 ^ 52 - 1)) ∧ (t % 2) * 2 ^ 63 + 0x7ff0000000000000 + 1 + (t / 2) % (2 ^ 52 - 1) < 18446744073709551616 := by
    intro t
    have h1 : t / 2 % (2 ^ 52 - 1) < 2 ^ 52 - 1 := Nat.mod_lt _ (by decide)
    generalize t / 2 % (2 ^ 52 - 1) = q at h1 ⊢
    unfold Proper rungOf
    rcases Nat.mod_two_eq_zero_or_one t with h | h <;> rw [h] <;> omega
  exact h _
theorem nanB_not {x : Nat} (h : ¬ Proper x) : nanB x = true := by unfold nanB Proper at *; simp; omega
theorem sub_nan {x y : Nat} (hx : ¬ Proper x) (t : TypeId) (w : World) : (binOp .sub t (.float .f64 x) (.float .f64 y)).run Try.prog w = .ok (.float .f64 (tapeNaN w x y)) w.drew := by
  have h : FloatKind.f64.format.sub x y = none := sub_none hx
  simp [binOp, Op.floatArith, h, Question.forced]
  rfl
theorem div_nan {x y : Nat} (hx : ¬ Proper x) (t : TypeId) (w : World) : (binOp .quo t (.float .f64 x) (.float .f64 y)).run Try.prog w = .ok (.float .f64 (tapeNaN w x y)) w.drew := by
  have h : FloatKind.f64.format.div x y = none := div_none hx
  simp [binOp, Op.floatArith, h, Question.forced]
  rfl
/-- the quotient of a day -/
def qq (x : Nat) : Nat := ((Ieee.double.sub x 4694518943220530644).bind fun d => Ieee.double.div d 4629005339494030828).getD 0
theorem qq_spec {x : Nat} (hx : Proper x) : ∃ d, Ieee.double.sub x 4694518943220530644 = some d ∧ Ieee.double.div d 4629005339494030828 = some (qq x) ∧ Proper (qq x) ∧ qq x < 18446744073709551616 := by
  obtain ⟨d, e, hd, _⟩ := sub_some (y := 4694518943220530644) hx (by decide)
  obtain ⟨q, e2, hq, lq⟩ := div_some (y := 4629005339494030828) hd (by decide) (by decide)
  have : qq x = q := by unfold qq; rw [e]; simp only [Option.bind_some, e2, Option.getD_some]
  exact ⟨d, e, by rw [this]; exact e2, by rw [this]; exact hq, by rw [this]; exact lq⟩
set_option maxHeartbeats 400000 in
theorem quot_yes (x : Nat) (w : World) (hx : Proper x) : Calls Try.prog 42 #[.float .f64 x] w fun e w' => e = .returned (.tuple #[.float .f64 (qq x), .bool (!infB (qq x))]) ∧ w = w' := by
  obtain ⟨d, e1, e2, hq, lq⟩ := qq_spec hx
  have H1 : ∀ t w, (binOp .sub t (.float .f64 x) (.float .f64 4694518943220530644)).run Try.prog w = .ok (.float .f64 d) w := fun t w => run_float_arith w .sub t .f64 _ _ _ e1
  have H2 : ∀ t w, (binOp .quo t (.float .f64 d) (.float .f64 4629005339494030828)).run Try.prog w = .ok (.float .f64 (qq x)) w := fun t w => run_float_arith w .quo t .f64 _ _ _ e2
  have Hn := nanB_of hq
  have HX := Lib.hid lq
  clear lq e1 e2 hq hx
  go_enter Try.func42, Try.ntmps42
  go_wp2_with first
    | (go_at_call 19; refine (isnan_c _ _).mono ?_; rintro e w' ⟨rfl, rfl⟩; rw [Hn])
    | (go_at_call 39; refine (isinf_c _ _ HX.out).mono ?_; rintro e w' ⟨rfl, rfl⟩)
  all_goals exact bodyPost_ret (v := .tuple #[.float .f64 (qq x), .bool (!infB (qq x))]) (by simp [results, Try.results42, go_sem]) rfl ⟨rfl, rfl⟩
set_option maxHeartbeats 400000 in
theorem quot_no (x : Nat) (w : World) (hx : ¬ Proper x) : Calls Try.prog 42 #[.float .f64 x] w fun e w' => ∃ b, e = .returned (.tuple #[.float .f64 b, .bool false]) ∧ Below w.heap.size w w' := by
  have H1 := fun y => sub_nan (y := y) hx
  obtain ⟨n1, _⟩ := tapeNaN_nan w x 4694518943220530644
  have H2 := fun y => div_nan (y := y) n1
  have HB : Below w.heap.size w w.drew.drew := (below_drewN (.refl _ _) 2)
  obtain ⟨n2, _⟩ := tapeNaN_nan w.drew (tapeNaN w x 4694518943220530644) 4629005339494030828
  have Hn := nanB_not n2
  clear n1 n2 hx
  go_enter Try.func42, Try.ntmps42
  go_wp2_with first
    | (go_at_call 19; refine (isnan_c _ _).mono ?_; rintro e w' ⟨rfl, rfl⟩; rw [Hn])
  all_goals exact bodyPost_ret (v := .tuple #[.float .f64 (tapeNaN w.drew (tapeNaN w x 4694518943220530644) 4629005339494030828), .bool false]) (by simp [results, Try.results42, go_sem]) rfl ⟨_, rfl, HB⟩
/-- a word made whole, as an integer -/
def iway (way : Ieee.Toward) (x : Nat) : Int := dsign (isNeg x) (cutq way (isNeg x) (V (rungOf x)) U)
theorem iway_conv (way : Ieee.Toward) {x : Nat} (hk : rungOf x < 4886405595696988160) : floatToIntVal .f64 (vInt way x) .i64 = some (iway way x) := by
  obtain ⟨r, e, hv, hr⟩ := int_parts way (x := x) (by omega)
  obtain ⟨p1, p2, _⟩ := word_parts (s := isNeg x) (show r < 9223372036854775808 by omega)
  have hle : V r ≤ 4611686018427387904 * U := by
    have h1 := V_lt hk
    rw [V_62] at h1
    have h2 : V (rungOf x) / U < 4611686018427387904 := (Nat.div_lt_iff_lt_mul U_pos).2 h1
    have h3 := cutq_le way (isNeg x) (V (rungOf x)) U
    rw [hv]
    exact Nat.mul_le_mul_right _ (by omega)
  have hU := U_pos
  rw [e, to_i64 (by rw [p2]; exact hr) (by rw [p2]; omega), p1, p2, hv, Nat.mul_div_cancel _ hU]
  rfl
/-- a day has a quotient -/
def reg (x : Nat) : Bool := !nanB x && !infB (qq x)
theorem nanB_iff {x : Nat} : nanB x = false ↔ Proper x := by unfold nanB Proper; rw [decide_eq_false_iff_not]; omega
theorem reg_spec {x : Nat} (h : reg x = true) : Proper x ∧ infB (qq x) = false ∧ rungOf (qq x) < 9218868437227405312 ∧ qq x < 18446744073709551616 := by
  unfold reg at h
  rw [Bool.and_eq_true, Bool.not_eq_true', Bool.not_eq_true', nanB_iff] at h
  obtain ⟨_, _, _, h3, h4⟩ := qq_spec h.1
  have h2 := h.2
  unfold infB at h2
  rw [decide_eq_false_iff_not] at h2
  unfold Proper at h3
  exact ⟨h.1, h.2, by omega, h4⟩
theorem quot_reg (x : Nat) (w : World) (h : reg x = true) : Calls Try.prog 42 #[.float .f64 x] w fun e w' => e = .returned (.tuple #[.float .f64 (qq x), .bool true]) ∧ w = w' := by
  obtain ⟨a, b, _⟩ := reg_spec h
  have := quot_yes x w a
  rw [b] at this; exact this
theorem quot_not (x : Nat) (w : World) (h : reg x = false) : Calls Try.prog 42 #[.float .f64 x] w fun e w' => ∃ b, e = .returned (.tuple #[.float .f64 b, .bool false]) ∧ Below w.heap.size w w' := by
  by_cases hp : Proper x
  · unfold reg at h
    rw [nanB_iff.2 hp, Bool.not_false, Bool.true_and, Bool.not_eq_false'] at h
    refine (quot_yes x w hp).mono ?_
    rintro e w' ⟨rfl, rfl⟩
    rw [h]
    exact ⟨_, rfl, .refl _ _⟩
  · exact quot_no x w hp
def lunB (x : Nat) : Bool := reg x && decide (rungOf (qq x) < 4845873199050653696)
set_option maxHeartbeats 400000 in
theorem lun_yes (x : Nat) (w : World) (h : lunB x = true) : Calls Try.prog 15 #[.float .f64 x] w fun e w' => e = .returned (.tuple #[.int .i64 (iway .down (qq x)), .bool true]) ∧ w = w' := by
  unfold lunB at h
  rw [Bool.and_eq_true, decide_eq_true_eq] at h
  obtain ⟨hr, hq⟩ := h
  obtain ⟨_, _, hf, hl⟩ := reg_spec hr
  have HX := Lib.hid hl
  have HP : RowKit.Hid (Proper (qq x)) := Lib.hid (by unfold Proper; omega)
  have Hc := conv_run (iway_conv .down (x := qq x) (by omega))
  have ⟨G1, G2⟩ := geq_no (x := qq x) (c := 4845873199050653696) hq (by omega)
  have HR := Lib.hid hr
  clear hl hf hr hq
  go_enter Try.func15, Try.ntmps15
  go_wp2_with first
    | (go_at_call 42; refine (quot_reg _ _ HR.out).mono ?_; rintro e w' ⟨rfl, rfl⟩)
    | (go_at_call 35; refine (abs_c _ _ HX.out).mono ?_; rintro e w' ⟨rfl, rfl⟩)
    | (go_at_call 43; refine (floor_c _ _ HP.out).mono ?_; rintro e w' ⟨rfl, rfl⟩)
  all_goals exact bodyPost_ret (v := .tuple #[.int .i64 (iway .down (qq x)), .bool true]) (by simp [results, Try.results15, go_sem]) rfl ⟨rfl, rfl⟩
set_option maxHeartbeats 400000 in
theorem lun_no (x : Nat) (w : World) (h : lunB x = false) : Calls Try.prog 15 #[.float .f64 x] w fun e w' => e = .returned (.tuple #[.int .i64 0, .bool false]) ∧ Below w.heap.size w w' := by
  rcases hr : reg x with _ | _
  · clear h
    have HR := Lib.hid hr
    clear hr
    go_enter Try.func15, Try.ntmps15
    go_wp2_with first
      | (go_at_call 42; refine (quot_not _ _ HR.out).mono ?_; rintro e w' ⟨b, rfl, HB⟩)
    all_goals exact bodyPost_ret (v := .tuple #[.int .i64 0, .bool false]) (by simp [results, Try.results15, go_sem]) rfl ⟨rfl, HB⟩
  · unfold lunB at h
    rw [hr, Bool.true_and, decide_eq_false_iff_not] at h
    obtain ⟨_, _, hf, hl⟩ := reg_spec hr
    have G := geq_yes (x := qq x) (c := 4845873199050653696) (by omega) (by omega)
    have HX := Lib.hid hl
    have HR := Lib.hid hr
    clear hl hf hr h
    go_enter Try.func15, Try.ntmps15
    go_wp2_with first
      | (go_at_call 42; refine (quot_reg _ _ HR.out).mono ?_; rintro e w' ⟨rfl, rfl⟩)
      | (go_at_call 35; refine (abs_c _ _ HX.out).mono ?_; rintro e w' ⟨rfl, rfl⟩)
    all_goals exact bodyPost_ret (v := .tuple #[.int .i64 0, .bool false]) (by simp [results, Try.results15, go_sem]) rfl ⟨rfl, .refl _ _⟩
theorem lun_c (x : Nat) (w : World) : Calls Try.prog 15 #[.float .f64 x] w fun e w' => e = .returned (.tuple #[.int .i64 (if lunB x then iway .down (qq x) else 0), .bool (lunB x)]) ∧ Below w.heap.size w w' := by
  rcases h : lunB x with _ | _
  · exact lun_no x w h
  · refine (lun_yes x w h).mono ?_
    rintro e w' ⟨rfl, rfl⟩
    exact ⟨rfl, .refl _ _⟩
end Go.Proofs.Ytbaioodjcjbklaa
