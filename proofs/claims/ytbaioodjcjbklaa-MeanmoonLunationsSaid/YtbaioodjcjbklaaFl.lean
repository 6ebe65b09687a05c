/-
  Plain facts on the words of IEEE double precision: the value of a word as a whole number of least units; how words are ordered. No program in sight.
-/
import Derived.WalkKit
import Derived.Laws.FloatArith
namespace Go.Proofs.Ytbaioodjcjbklaa
open Ieee

/-- the magnitude of a rung, in units of 2^-1074 -/
def V (r : Nat) : Nat := if r < 4503599627370496 then r else (4503599627370496 + r % 4503599627370496) * 2 ^ (r / 4503599627370496 - 1)
theorem V_succ (r : Nat) : V r < V (r + 1) := by
  unfold V
  by_cases h1 : r + 1 < 4503599627370496
  · rw [if_pos h1, if_pos (by omega)]; omega
  · rw [if_neg h1]
    by_cases h2 : r < 4503599627370496
    · have e : r + 1 = 4503599627370496 := by omega
      rw [if_pos h2, e]; omega
    · rw [if_neg h2]
      have hq : 0 < 2 ^ (r / 4503599627370496 - 1) := Nat.two_pow_pos _
      by_cases h3 : r % 4503599627370496 + 1 < 4503599627370496
      · rw [show (r + 1) / 4503599627370496 = r / 4503599627370496 by omega, show (r + 1) % 4503599627370496 = r % 4503599627370496 + 1 by omega]
        exact Nat.mul_lt_mul_of_pos_right (by omega) hq
      · have e1 : (r + 1) / 4503599627370496 - 1 = r / 4503599627370496 - 1 + 1 := by omega
        have e2 : (r + 1) % 4503599627370496 = 0 := by omega
        rw [e1, e2, Nat.pow_succ, Nat.mul_comm (2 ^ _) 2, ← Nat.mul_assoc]
        exact Nat.mul_lt_mul_of_pos_right (by omega) hq
theorem V_lt {a b : Nat} (h : a < b) : V a < V b := by
  obtain ⟨d, rfl⟩ : ∃ d, b = a + 1 + d := ⟨b - a - 1, by omega⟩
  clear h
  induction d with
  | zero => exact V_succ a
  | succ d ih => exact Nat.lt_trans ih (V_succ _)
theorem V_le {a b : Nat} (h : a ≤ b) : V a ≤ V b := by
  by_cases e : a = b
  · subst e; exact Nat.le_refl _
  · exact Nat.le_of_lt (V_lt (by omega))
theorem V_lt_iff {a b : Nat} : V a < V b ↔ a < b := by
  constructor
  · intro h
    refine Classical.byContradiction fun hc => ?_
    have := V_le (a := b) (b := a) (by omega)
    omega
  · exact V_lt
theorem V_inj {a b : Nat} (h : V a = V b) : a = b := by
  refine Classical.byContradiction fun hc => ?_
  by_cases h1 : a < b
  · have := V_lt h1; omega
  · have := V_lt (a := b) (b := a) (by omega); omega
theorem V_zero : V 0 = 0 := by simp [V]

def isNeg (x : Nat) : Bool := x / 9223372036854775808 % 2 == 1
def rungOf (x : Nat) : Nat := x % 9223372036854775808
/-- the number of a word, in units of 2^-1074; an infinity lies behind all of them -/
def sval (x : Nat) : Int := if isNeg x = true then -(V (rungOf x) : Int) else (V (rungOf x) : Int)

theorem signWeight_double : double.signWeight = 9223372036854775808 := by decide
theorem binade_double : double.binade = 4503599627370496 := by decide
theorem infRung_double : double.infRung = 9218868437227405312 := by decide
theorem leastPlace_double : double.leastPlace = -1074 := by decide

theorem read_low {x : Nat} (h : rungOf x < 4503599627370496) : double.read x = .number (isNeg x) (rungOf x) (-1074) := by
  unfold Format.read isNeg rungOf at *
  rw [signWeight_double, binade_double, leastPlace_double]
  simp only [h, if_true]
theorem read_mid {x : Nat} (h0 : ¬ rungOf x < 4503599627370496) (h : rungOf x < 9218868437227405312) : double.read x = .number (isNeg x) (4503599627370496 + rungOf x % 4503599627370496) (-1074 + (rungOf x / 4503599627370496 - 1 : Nat)) := by
  unfold Format.read isNeg rungOf at *
  rw [signWeight_double, binade_double, leastPlace_double, infRung_double]
  simp only [h0, h, if_true, if_false]
theorem read_inf {x : Nat} (h : rungOf x = 9218868437227405312) : double.read x = .infinity (isNeg x) := by
  unfold Format.read isNeg rungOf at *
  rw [signWeight_double, binade_double, infRung_double, h]
  rfl
theorem read_nan {x : Nat} (h : 9218868437227405312 < rungOf x) : double.read x = .nan (isNeg x) (rungOf x - 9218868437227405312) := by
  unfold Format.read isNeg rungOf at *
  rw [signWeight_double, binade_double, infRung_double]
  simp only [show ¬ x % 9223372036854775808 < 4503599627370496 by omega, show ¬ x % 9223372036854775808 < 9218868437227405312 by omega, show ¬ x % 9223372036854775808 = 9218868437227405312 by omega, if_false]

/-- A finite word is a number of so many units at a place, and these come to its value. -/
theorem read_fin {x : Nat} (h : rungOf x < 9218868437227405312) : ∃ (m u : Nat), double.read x = .number (isNeg x) m (-1074 + (u : Int)) ∧ m * 2 ^ u = V (rungOf x) ∧ m < 9007199254740992 ∧ u ≤ 2045 := by
  by_cases h0 : rungOf x < 4503599627370496
  · exact ⟨rungOf x, 0, by rw [read_low h0]; rfl, by simp [V, h0], by omega, by omega⟩
  · exact ⟨_, _, read_mid h0 h, by rw [V, if_neg h0], by omega, by omega⟩

theorem signed_shift (s : Bool) (m k : Nat) : signed s m k = (if s = true then -((m * 2 ^ k : Nat) : Int) else ((m * 2 ^ k : Nat) : Int)) := by
  unfold signed; rw [Nat.shiftLeft_eq]
theorem compare_scale {a b : Int} {c : Int} (hc : 0 < c) : compare (a * c) (b * c) = compare a b := by
  rcases Int.lt_trichotomy a b with h | h | h
  · have h' : a * c < b * c := Int.mul_lt_mul_of_pos_right h hc
    rw [Int.compare_eq_lt.2 h, Int.compare_eq_lt.2 h']
  · subst h; simp
  · have h' : b * c < a * c := Int.mul_lt_mul_of_pos_right h hc
    rw [Int.compare_eq_gt.2 h, Int.compare_eq_gt.2 h']
theorem signed_scale (s : Bool) (m u b : Nat) (hb : b ≤ u) : signed s m (u - b) * (2 ^ b : Nat) = (if s = true then -((m * 2 ^ u : Nat) : Int) else ((m * 2 ^ u : Nat) : Int)) := by
  rw [signed_shift]
  have e : m * 2 ^ (u - b) * 2 ^ b = m * 2 ^ u := by rw [Nat.mul_assoc, ← Nat.pow_add, Nat.sub_add_cancel hb]
  cases s
  · simp only [Bool.false_eq_true, if_false]; rw [← Int.natCast_mul, e]
  · simp only [if_true]; rw [Int.neg_mul, ← Int.natCast_mul, e]

theorem order_fin {x y : Nat} (hx : rungOf x < 9218868437227405312) (hy : rungOf y < 9218868437227405312) : double.order x y = some (compare (sval x) (sval y)) := by
  obtain ⟨m, u, e1, v1, _, _⟩ := read_fin hx
  obtain ⟨n, v, e2, v2, _, _⟩ := read_fin hy
  unfold Format.order
  rw [e1, e2]
  unfold Datum.order
  simp only [Option.some.injEq]
  have hb : min (-1074 + (u : Int)) (-1074 + (v : Int)) = -1074 + ((min u v : Nat) : Int) := by omega
  rw [hb]
  have k1 : (-1074 + (u : Int) - (-1074 + ((min u v : Nat) : Int))).toNat = u - min u v := by omega
  have k2 : (-1074 + (v : Int) - (-1074 + ((min u v : Nat) : Int))).toNat = v - min u v := by omega
  rw [k1, k2]
  have hc : (0 : Int) < ((2 ^ (min u v) : Nat) : Int) := by have := Nat.two_pow_pos (min u v); omega
  rw [← compare_scale hc, signed_scale _ _ _ _ (Nat.min_le_left _ _), signed_scale _ _ _ _ (Nat.min_le_right _ _), v1, v2]
  rfl

theorem sval_bd {x : Nat} (h : rungOf x < 9218868437227405312) : -(V 9218868437227405312 : Int) < sval x ∧ sval x < (V 9218868437227405312 : Int) := by
  have := V_lt h
  unfold sval; split <;> omega
theorem order_nn {x y : Nat} (hx : rungOf x ≤ 9218868437227405312) (hy : rungOf y ≤ 9218868437227405312) : double.order x y = some (compare (sval x) (sval y)) := by
  by_cases h1 : rungOf x < 9218868437227405312
  · by_cases h2 : rungOf y < 9218868437227405312
    · exact order_fin h1 h2
    · have e2 : rungOf y = 9218868437227405312 := by omega
      obtain ⟨m, u, e1, _, _, _⟩ := read_fin h1
      obtain ⟨b1, b2⟩ := sval_bd h1
      unfold Format.order
      rw [e1, read_inf e2]
      unfold Datum.order
      simp only [Option.some.injEq]
      unfold sval at b1 b2 ⊢
      rw [e2]
      cases isNeg y
      · simp only [Bool.false_eq_true, if_false] at *
        exact (Int.compare_eq_lt.2 b2).symm
      · simp only [if_true] at *
        exact (Int.compare_eq_gt.2 b1).symm
  · have e1 : rungOf x = 9218868437227405312 := by omega
    by_cases h2 : rungOf y < 9218868437227405312
    · obtain ⟨m, u, e2, _, _, _⟩ := read_fin h2
      obtain ⟨b1, b2⟩ := sval_bd h2
      unfold Format.order
      rw [e2, read_inf e1]
      unfold Datum.order
      simp only [Option.some.injEq]
      unfold sval at b1 b2 ⊢
      rw [e1]
      cases isNeg x
      · simp only [Bool.false_eq_true, if_false] at *
        exact (Int.compare_eq_gt.2 b2).symm
      · simp only [if_true] at *
        exact (Int.compare_eq_lt.2 b1).symm
    · have e2 : rungOf y = 9218868437227405312 := by omega
      have hp : (0 : Int) < (V 9218868437227405312 : Int) := by have := V_lt (a := 0) (b := 9218868437227405312) (by omega); omega
      unfold Format.order
      rw [read_inf e1, read_inf e2]
      unfold Datum.order sval
      rw [e1, e2]
      generalize (V 9218868437227405312 : Int) = v at hp
      cases isNeg x <;> cases isNeg y <;> simp only [Bool.false_eq_true, if_false, if_true, Option.some.injEq]
      · simp
      · rw [Int.compare_eq_gt.2 (show -v < v by omega)]; rfl
      · rw [Int.compare_eq_lt.2 (show -v < v by omega)]; rfl
      · simp
theorem order_nanl {x y : Nat} (hx : 9218868437227405312 < rungOf x) : double.order x y = none := by
  unfold Format.order; rw [read_nan hx]; unfold Datum.order; rfl
theorem order_nanr {x y : Nat} (hy : 9218868437227405312 < rungOf y) : double.order x y = none := by
  unfold Format.order; rw [read_nan hy]; unfold Datum.order
  cases double.read x <;> rfl
end Go.Proofs.Ytbaioodjcjbklaa
