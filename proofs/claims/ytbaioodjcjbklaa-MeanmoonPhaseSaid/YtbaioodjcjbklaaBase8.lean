/-
  The walk of the law MeanmoonPhase: the phase is in [0, 1), the age below a synodic month, both nought together, for every regular word; else both are NaNs.
-/
import Derived.Test.YtbaioodjcjbklaaBase7
namespace Go.Proofs.Ytbaioodjcjbklaa
open Go.RowKit
theorem phase_cases {x : Nat} (h : reg x = true) : ∃ o, FloatKind.f64.format.order (ph x) 0 = some o ∧ FloatKind.f64.format.order (ag x) 0 = some o ∧ (o = .eq ∨ o = .gt) ∧ FloatKind.f64.format.order (ph x) 4607182418800017408 = some .lt ∧ FloatKind.f64.format.order (ag x) 4629005339494030828 = some .lt ∧ isNeg (ph x) = false ∧ ph x < 18446744073709551616 := by
  have h1 := ph_facts h
  obtain ⟨_, h2, h3⟩ := ag_spec h
  refine ⟨if ph x = 0 then .eq else .gt, ?_, ?_, ?_, ?_, ?_, ?_, by omega⟩
  · rw [order_small (by omega) (by omega)]
    by_cases h0 : ph x = 0
    · rw [if_pos h0, h0]; rfl
    · rw [if_neg h0, Nat.compare_eq_gt.2 (by omega)]
  · rw [order_small (by omega) (by omega)]
    by_cases h0 : ph x = 0
    · rw [if_pos h0, h3.1 h0]; rfl
    · rw [if_neg h0, Nat.compare_eq_gt.2 (by have := mt h3.2 h0; omega)]
  · split
    · exact Or.inl rfl
    · exact Or.inr rfl
  · rw [order_small (by omega) (by omega), Nat.compare_eq_lt.2 h1]
  · rw [order_small (by omega) (by omega), Nat.compare_eq_lt.2 h2]
  · exact (rung_small (x := ph x) (by omega)).1
set_option maxRecDepth 100000 in
set_option maxHeartbeats 1000000 in
theorem phase_w (a : Nat) (w : World) (ha : a < 18446744073709551616) : Calls Try.prog 7 #[.int .u64 (bitsOf a)] w fun e w' => e = .returned (.bool true) ∧ Below w.heap.size w w' := by
  have HA := Lib.hid ha
  rcases hr : reg a with _ | _
  · have hp : ph a = 9221120237041090561 := by unfold ph; rw [hr]; rfl
    have hg : ag a = 9221120237041090561 := by unfold ag; rw [hr]; rfl
    have HR := Lib.hid hr
    have HP := Lib.hid hp
    have HG := Lib.hid hg
    clear ha hr hp hg
    go_enter Try.func7, Try.ntmps7
    go_wp2_with first
      | (go_at_call 9; refine (awake_c _).mono ?_; rintro e w1 ⟨rfl, hB⟩)
      | (go_at_call 16; refine (phase_c _ _).mono ?_; rintro e w2 ⟨rfl, hC⟩; rw [HP.out])
      | (go_at_call 17; refine (age_c _ _).mono ?_; rintro e w3 ⟨rfl, hD⟩; rw [HG.out])
      | (go_at_call 18; refine (regular_c _ _ HA.out).mono ?_; rintro e w4 ⟨b, ⟨rfl, _⟩, rfl⟩; rw [HR.out])
      | (go_at_call 19; refine (isnan_c _ _).mono ?_; rintro e w4 ⟨rfl, rfl⟩; rw [k_nan])
      | go_in
    all_goals go_ret
    all_goals exact ⟨rfl, chain (chain hB hC) hD⟩
  · obtain ⟨o, o1, o2, ho, o3, o4, hn, hl⟩ := phase_cases hr
    have HR := Lib.hid hr
    have P := fun w => phase_c a w
    have G := fun w => age_c a w
    have R := fun w => regular_c a w ha
    rw [hr] at R
    clear ha hr
    generalize ph a = p at *
    generalize ag a = g at *
    have HN := Lib.hid hn
    have HL := Lib.hid hl
    have HP := Lib.hid P
    have HG := Lib.hid G
    have HRR := Lib.hid R
    clear hn hl P G R
    rcases ho with rfl | rfl
    all_goals
      go_enter Try.func7, Try.ntmps7
      go_wp2_with first
        | (go_at_call 9; refine (awake_c _).mono ?_; rintro e w1 ⟨rfl, hB⟩)
        | (go_at_call 16; refine (HP.out _).mono ?_; rintro e w2 ⟨rfl, hC⟩)
        | (go_at_call 17; refine (HG.out _).mono ?_; rintro e w3 ⟨rfl, hD⟩)
        | (go_at_call 18; refine (HRR.out _).mono ?_; rintro e w4 ⟨b, ⟨rfl, _⟩, rfl⟩)
        | (go_at_call 20; refine (signbit_c _ _ HL.out).mono ?_; rintro e w4 ⟨rfl, rfl⟩; rw [HN.out])
        | go_in
    all_goals first
      | (go_ret; exact ⟨rfl, chain (chain hB hC) hD⟩)
      | trace_state
end Go.Proofs.Ytbaioodjcjbklaa
