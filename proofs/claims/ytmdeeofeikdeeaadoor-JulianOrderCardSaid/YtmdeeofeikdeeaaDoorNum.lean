/-
  Plain facts on floored and truncated quotients of 64-bit integers. No program in sight.
-/
import Derived.WalkKit
namespace Go.Proofs.YtmdeeofeikdeeaaDoor
open Go.RowKit
def In64 (n : Int) : Prop := -9223372036854775808 ≤ n ∧ n ≤ 9223372036854775807
theorem wrap_in {n : Int} (h : In64 n) : wrap64 n = n := by unfold In64 at h; unfold wrap64; omega
theorem dvd_iff {a b : Int} : b ∣ a ↔ a.tmod b = 0 := Int.dvd_iff_tmod_eq_zero ..
theorem tmod_neg_iff {a b : Int} (h : ¬ a.tmod b = 0) : a.tmod b < 0 ↔ a < 0 := by
  constructor
  · intro h1
    apply Classical.byContradiction
    intro h2
    have := Int.tmod_nonneg (a := a) b (by omega)
    omega
  · intro h1
    have := Int.tmod_nonneg (a := -a) b (by omega)
    rw [Int.neg_tmod] at this
    omega
theorem fdm_zero {a b : Int} (h : a.tmod b = 0) : a.fdiv b = a.tdiv b ∧ a.fmod b = 0 := by
  have hd : b ∣ a := dvd_iff.2 h
  rw [Int.fdiv_eq_tdiv, Int.fmod_eq_tmod, if_pos hd, if_pos hd, h]
  omega
theorem fdm_adj {a b : Int} (hb : ¬ b = 0) (h : ¬ a.tmod b = 0) (hs : ¬ (a.tmod b < 0 ↔ b < 0)) : a.fdiv b = a.tdiv b - 1 ∧ a.fmod b = a.tmod b + b := by
  have hd : ¬ b ∣ a := fun e => h (dvd_iff.1 e)
  rw [tmod_neg_iff h] at hs
  rw [Int.fdiv_eq_tdiv, Int.fmod_eq_tmod, if_neg hd, if_neg hd]
  by_cases h0 : 0 ≤ a
  · rw [if_pos h0, if_pos h0]
    have : ¬ 0 ≤ b := by omega
    rw [if_neg this, if_neg this]; omega
  · rw [if_neg h0, if_neg h0]
    have : 0 ≤ b := by omega
    rw [if_pos this, if_pos this, Int.sign_eq_one_of_pos (by omega)]; omega
theorem fdm_same {a b : Int} (h : ¬ a.tmod b = 0) (hs : a.tmod b < 0 ↔ b < 0) : a.fdiv b = a.tdiv b ∧ a.fmod b = a.tmod b := by
  have hd : ¬ b ∣ a := fun e => h (dvd_iff.1 e)
  rw [tmod_neg_iff h] at hs
  rw [Int.fdiv_eq_tdiv, Int.fmod_eq_tmod, if_neg hd, if_neg hd]
  by_cases h0 : 0 ≤ a
  · rw [if_pos h0, if_pos h0]
    have : 0 ≤ b := by omega
    rw [if_pos this, if_pos this]; omega
  · rw [if_neg h0, if_neg h0]
    have : ¬ 0 ≤ b := by omega
    rw [if_neg this, if_neg this, Int.sign_eq_neg_one_of_neg (by omega)]; omega
theorem tdiv_in {a b : Int} (ha : In64 a) (h : ¬ (a = -9223372036854775808 ∧ b = -1)) : In64 (a.tdiv b) := by
  unfold In64 at *
  have e : (a.tdiv b).natAbs = a.natAbs / b.natAbs := Int.natAbs_tdiv a b
  have l : a.natAbs / b.natAbs ≤ a.natAbs := Nat.div_le_self _ _
  rw [← e] at l
  by_cases hm : a = -9223372036854775808
  · by_cases h1 : b.natAbs = 1
    · have : b = 1 := by omega
      subst this; simp; omega
    · by_cases h0 : b.natAbs = 0
      · have : b = 0 := by omega
        subst this; simp
      · have h2 : a.natAbs / b.natAbs ≤ a.natAbs / 2 := Nat.div_le_div_left (by omega) (by omega)
        rw [← e] at h2
        omega
  · omega
theorem tmod_abs {a b : Int} (hb : ¬ b = 0) : (a.tmod b).natAbs < b.natAbs := by
  rw [Int.natAbs_tmod]; exact Nat.mod_lt _ (by omega)
theorem tdiv_adj_in {a b : Int} (ha : In64 a) (hb : ¬ b = 0) (h : ¬ a.tmod b = 0) : In64 (a.tdiv b - 1) := by
  unfold In64 at *
  have e : (a.tdiv b).natAbs = a.natAbs / b.natAbs := Int.natAbs_tdiv a b
  have := tmod_abs (a := a) hb
  have h2 : a.natAbs / b.natAbs ≤ a.natAbs / 2 := Nat.div_le_div_left (by omega) (by omega)
  rw [← e] at h2
  omega
end Go.Proofs.YtmdeeofeikdeeaaDoor
