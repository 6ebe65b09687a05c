/-
  Contracts of the reference's readings of a word (its parts, whether it is finite, whether a day is regular).
-/
import Derived.Test.YtbaioodjcjbklaaBase6
namespace Go.Proofs.Ytbaioodjcjbklaa
open Go.RowKit
/-- a word is finite -/
def finB (x : Nat) : Bool := decide (rungOf x < 9218868437227405312)
theorem tdiv_bits (x k : Nat) : (bitsOf x).tdiv (k : Int) = bitsOf (x / k) := by rw [bitsOf_eq, bitsOf_eq]; exact (Int.ofNat_tdiv x k).symm
theorem tmod_bits (x k : Nat) : (bitsOf x).tmod (k : Int) = bitsOf (x % k) := by rw [bitsOf_eq, bitsOf_eq]; exact (Int.ofNat_tmod x k).symm
theorem wrap_bits {x : Nat} (h : x < 18446744073709551616) : IntKind.u64.wrap (bitsOf x) = bitsOf x := by
  rw [bitsOf_eq, IntKind.wrap_u64]; omega
theorem part1 {x : Nat} (h : x < 18446744073709551616) : (IntKind.u64.wrap ((bitsOf x).tdiv 9223372036854775808) == 1) = isNeg x := by
  have e : (bitsOf x).tdiv 9223372036854775808 = bitsOf (x / 9223372036854775808) := tdiv_bits x 9223372036854775808
  rw [e, wrap_bits (by omega), bitsOf_eq]
  unfold isNeg
  rw [Bool.eq_iff_iff, beq_iff_eq, beq_iff_eq]; omega
theorem part2 {x : Nat} (h : x < 18446744073709551616) : (IntKind.u64.wrap ((bitsOf x).tdiv 4503599627370496)).tmod 2048 = bitsOf (x / 4503599627370496 % 2048) := by
  have e : (bitsOf x).tdiv 4503599627370496 = bitsOf (x / 4503599627370496) := tdiv_bits x 4503599627370496
  rw [e, wrap_bits (by omega)]
  exact tmod_bits _ 2048
theorem part3 (x : Nat) : (bitsOf x).tmod 4503599627370496 = bitsOf (x % 4503599627370496) := tmod_bits x 4503599627370496
theorem ret_parts {a b : Bool} {c d f g : Int} (h1 : a = b) (h2 : c = d) (h3 : f = g) : Ending.returned (.tuple #[.bool a, .int .u64 c, .int .u64 f]) = .returned (.tuple #[.bool b, .int .u64 d, .int .u64 g]) := by rw [h1, h2, h3]
set_option maxHeartbeats 400000 in
theorem parts_c (x : Nat) (w : World) (hx : x < 18446744073709551616) : Calls Try.prog 46 #[.float .f64 x] w fun e w' => e = .returned (.tuple #[.bool (isNeg x), .int .u64 (bitsOf (x / 4503599627370496 % 2048)), .int .u64 (bitsOf (x % 4503599627370496))]) ∧ w = w' := by
  have H1 := Lib.hid (part1 hx)
  have H2 := Lib.hid (part2 hx)
  have H3 := Lib.hid (part3 x)
  clear hx
  go_enter Try.func46, Try.ntmps46
  go_wp2
  all_goals go_ret3
  all_goals exact ⟨ret_parts H1.out H2.out H3.out, rfl⟩
theorem fin_test (x : Nat) : decide (bitsOf (x / 4503599627370496 % 2048) < 2047) = finB x := by
  unfold finB rungOf; rw [decide_eq_decide, bitsOf_eq]; omega
set_option maxHeartbeats 400000 in
theorem finite_c (x : Nat) (w : World) (hx : x < 18446744073709551616) : Calls Try.prog 44 #[.float .f64 x] w fun e w' => e = .returned (.bool (finB x)) ∧ w = w' := by
  have H := Lib.hid (fin_test x)
  go_enter Try.func44, Try.ntmps44
  go_wp2_with (go_at_call 46; refine (parts_c _ _ hx).mono ?_; rintro e w' ⟨rfl, rfl⟩)
  all_goals go_ret
  all_goals exact ⟨ret_bool H.out, rfl⟩
theorem qq_inf {x : Nat} (h : rungOf x = 9218868437227405312) : infB (qq x) = true := by
  obtain ⟨n, v, e2, _, _, _⟩ := read_fin (x := 4694518943220530644) (by decide)
  obtain ⟨m, u, e3, _, _, _⟩ := read_fin (x := 4629005339494030828) (by decide)
  have s1 : Ieee.double.sub x 4694518943220530644 = some (Ieee.double.word (isNeg x) Ieee.double.infRung) := by
    unfold Ieee.Format.sub; rw [e2, read_inf h]; rfl
  obtain ⟨p1, p2, p3⟩ := inf_parts (isNeg x)
  have s2 : Ieee.double.div (Ieee.double.word (isNeg x) Ieee.double.infRung) 4629005339494030828 = some (Ieee.double.word (isNeg (Ieee.double.word (isNeg x) Ieee.double.infRung) ^^ isNeg 4629005339494030828) Ieee.double.infRung) := by
    unfold Ieee.Format.div; rw [e3, read_inf p2]; rfl
  have : qq x = Ieee.double.word (isNeg (Ieee.double.word (isNeg x) Ieee.double.infRung) ^^ isNeg 4629005339494030828) Ieee.double.infRung := by
    unfold qq; rw [s1, Option.bind_some, s2]; rfl
  rw [this]; unfold infB; rw [(inf_parts _).2.1]; rfl
theorem reg_fin {x : Nat} (h : reg x = true) : finB x = true := by
  obtain ⟨a, b, _⟩ := reg_spec h
  unfold finB; rw [decide_eq_true_eq]
  unfold Proper at a
  rcases Nat.lt_or_eq_of_le a with h1 | h1
  · exact h1
  · rw [qq_inf h1] at b; cases b
theorem reg_eq {x : Nat} (h : finB x = true) : finB (qq x) = reg x := by
  have hp : Proper x := by unfold finB at h; rw [decide_eq_true_eq] at h; unfold Proper; omega
  obtain ⟨_, _, _, hq, _⟩ := qq_spec hp
  unfold reg
  rw [nanB_iff.2 hp]
  unfold finB infB
  unfold Proper at hq
  rw [Bool.not_false, Bool.true_and, ← decide_not, decide_eq_decide]; omega
set_option maxHeartbeats 400000 in
theorem regular_c (x : Nat) (w : World) (hx : x < 18446744073709551616) : Calls Try.prog 18 #[.float .f64 x] w fun e w' => ∃ b, (e = .returned (.tuple #[.float .f64 b, .bool (reg x)]) ∧ (reg x = true → b = qq x)) ∧ w = w' := by
  rcases hf : finB x with _ | _
  · have hr : reg x = false := by
      rcases h : reg x with _ | _
      · rfl
      · rw [reg_fin h] at hf; cases hf
    rw [hr]
    have HF := Lib.hid hf
    have HX := Lib.hid hx
    clear hf hx hr
    go_enter Try.func18, Try.ntmps18
    go_wp2_with (go_at_call 44; refine (finite_c _ _ HX.out).mono ?_; rintro e w' ⟨rfl, rfl⟩; rw [HF.out])
    all_goals exact bodyPost_ret (v := .tuple #[.float .f64 0, .bool false]) (by simp [results, Try.results18, go_sem]) rfl ⟨_, ⟨rfl, fun h => by cases h⟩, rfl⟩
  · have hp : Proper x := by unfold finB at hf; rw [decide_eq_true_eq] at hf; unfold Proper; omega
    obtain ⟨d, e1, e2, hq, lq⟩ := qq_spec hp
    have H1 : ∀ t w, (binOp .sub t (.float .f64 x) (.float .f64 4694518943220530644)).run Try.prog w = .ok (.float .f64 d) w := fun t w => run_float_arith w .sub t .f64 _ _ _ e1
    have H2 : ∀ t w, (binOp .quo t (.float .f64 d) (.float .f64 4629005339494030828)).run Try.prog w = .ok (.float .f64 (qq x)) w := fun t w => run_float_arith w .quo t .f64 _ _ _ e2
    have HF := Lib.hid hf
    have HX := Lib.hid hx
    have HQ := Lib.hid lq
    have HE := Lib.hid (reg_eq hf)
    clear e1 e2 hq hp hf hx lq
    generalize qq x = q at *
    go_enter Try.func18, Try.ntmps18
    go_wp2_with first
      | (go_at_call 44; with_reducible refine (finite_c x _ HX.out).mono ?_; rintro e w' ⟨rfl, rfl⟩; rw [HF.out])
      | (go_at_call 44; with_reducible refine (finite_c q _ HQ.out).mono ?_; rintro e w' ⟨rfl, rfl⟩; rw [HE.out])
      | go_in
    all_goals exact bodyPost_ret (v := .tuple #[.float .f64 q, .bool (reg x)]) (by simp [results, Try.results18, go_sem]) rfl ⟨_, ⟨rfl, fun h => rfl⟩, rfl⟩
end Go.Proofs.Ytbaioodjcjbklaa
