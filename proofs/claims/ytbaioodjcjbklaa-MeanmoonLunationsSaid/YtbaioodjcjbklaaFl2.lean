/-
  Plain facts on what the operations of IEEE double precision give: the sign and the rung of a written word; that a difference, a quotient and a product of proper operands exist. No program in sight.
-/
import Derived.Test.YtbaioodjcjbklaaFl
namespace Go.Proofs.Ytbaioodjcjbklaa
open Ieee

theorem word_double (s : Bool) (r : Nat) : double.word s r = if s = true then 9223372036854775808 + r else r := by
  unfold Format.word; rw [signWeight_double]
theorem word_parts {s : Bool} {r : Nat} (h : r < 9223372036854775808) : isNeg (double.word s r) = s ∧ rungOf (double.word s r) = r ∧ double.word s r < 18446744073709551616 := by
  rw [word_double]
  unfold isNeg rungOf
  cases s
  · simp only [Bool.false_eq_true, if_false]
    refine ⟨?_, by omega, by omega⟩
    rw [show r / 9223372036854775808 % 2 = 0 by omega]; rfl
  · simp only [if_true]
    refine ⟨?_, by omega, by omega⟩
    rw [show (9223372036854775808 + r) / 9223372036854775808 % 2 = 1 by omega]; rfl
theorem word_of {x : Nat} (h : x < 18446744073709551616) : double.word (isNeg x) (rungOf x) = x := by
  rw [word_double]
  unfold isNeg rungOf
  by_cases hx : x < 9223372036854775808
  · rw [show x / 9223372036854775808 % 2 = 0 by omega]; simp; omega
  · rw [show x / 9223372036854775808 % 2 = 1 by omega]; simp; omega
/-- a word is one of the numbers and infinities -/
def Proper (x : Nat) : Prop := rungOf x ≤ 9218868437227405312
theorem nearest_word (s : Bool) (m : Nat) (p : Int) : ∃ r, double.nearest s m p = double.word s r ∧ r ≤ 9218868437227405312 := by
  unfold Format.nearest
  dsimp only
  split
  · exact ⟨0, rfl, by omega⟩
  · refine ⟨_, rfl, ?_⟩
    rw [infRung_double]; exact Nat.min_le_right ..
theorem nearest_parts (s : Bool) (m : Nat) (p : Int) : isNeg (double.nearest s m p) = s ∧ rungOf (double.nearest s m p) ≤ 9218868437227405312 ∧ double.nearest s m p < 18446744073709551616 := by
  obtain ⟨r, e, h⟩ := nearest_word s m p
  obtain ⟨a, b, c⟩ := @word_parts s r (by omega)
  rw [e]; exact ⟨a, by rw [b]; exact h, c⟩
theorem inf_parts (s : Bool) : isNeg (double.word s double.infRung) = s ∧ rungOf (double.word s double.infRung) = 9218868437227405312 ∧ double.word s double.infRung < 18446744073709551616 := by
  rw [infRung_double]; exact word_parts (by omega)

theorem read_proper {x : Nat} (h : Proper x) : (∃ (m u : Nat), double.read x = .number (isNeg x) m (-1074 + (u : Int)) ∧ m * 2 ^ u = V (rungOf x) ∧ m < 9007199254740992 ∧ rungOf x < 9218868437227405312) ∨ (double.read x = .infinity (isNeg x) ∧ rungOf x = 9218868437227405312) := by
  by_cases h1 : rungOf x < 9218868437227405312
  · obtain ⟨m, u, a, b, c, _⟩ := read_fin h1
    exact .inl ⟨m, u, a, b, c, h1⟩
  · have e : rungOf x = 9218868437227405312 := by unfold Proper at h; omega
    exact .inr ⟨read_inf e, e⟩

/-- A difference with a finite number exists. -/
theorem sub_some {x y : Nat} (hx : Proper x) (hy : rungOf y < 9218868437227405312) : ∃ r, double.sub x y = some r ∧ Proper r ∧ r < 18446744073709551616 := by
  obtain ⟨n, v, e2, _, _, _⟩ := read_fin hy
  unfold Format.sub
  rw [e2]
  rcases read_proper hx with ⟨m, u, e1, _, _, _⟩ | ⟨e1, _⟩
  · rw [e1]
    simp only [Datum.opposite, Datum.sum, Option.map_some]
    refine ⟨_, rfl, ?_⟩
    unfold Format.write
    obtain ⟨_, b, c⟩ := nearest_parts (if signed (isNeg x) m ((-1074 + (u : Int)) - min (-1074 + (u : Int)) (-1074 + (v : Int))).toNat + signed (!isNeg y) n ((-1074 + (v : Int)) - min (-1074 + (u : Int)) (-1074 + (v : Int))).toNat = 0 then isNeg x && !isNeg y else decide (signed (isNeg x) m ((-1074 + (u : Int)) - min (-1074 + (u : Int)) (-1074 + (v : Int))).toNat + signed (!isNeg y) n ((-1074 + (v : Int)) - min (-1074 + (u : Int)) (-1074 + (v : Int))).toNat < 0)) (signed (isNeg x) m ((-1074 + (u : Int)) - min (-1074 + (u : Int)) (-1074 + (v : Int))).toNat + signed (!isNeg y) n ((-1074 + (v : Int)) - min (-1074 + (u : Int)) (-1074 + (v : Int))).toNat).natAbs (min (-1074 + (u : Int)) (-1074 + (v : Int)))
    exact ⟨b, c⟩
  · rw [e1]
    simp only [Datum.opposite, Datum.sum, Option.map_some]
    obtain ⟨_, b, c⟩ := inf_parts (isNeg x)
    exact ⟨_, rfl, by unfold Proper; exact Nat.le_of_eq b, c⟩
theorem div_some {x y : Nat} (hx : Proper x) (hy : rungOf y < 9218868437227405312) (h0 : rungOf y ≠ 0) : ∃ r, double.div x y = some r ∧ Proper r ∧ r < 18446744073709551616 := by
  obtain ⟨n, v, e2, hv, _, _⟩ := read_fin hy
  have hn : n ≠ 0 := by
    intro e; subst e
    have : V 0 < V (rungOf y) := V_lt (by omega)
    rw [V_zero, ← hv] at this; simp at this
  unfold Format.div
  rw [e2]
  rcases read_proper hx with ⟨m, u, e1, _, _, _⟩ | ⟨e1, _⟩
  · rw [e1]
    simp only [Datum.quotient, if_neg hn, Option.map_some]
    refine ⟨_, rfl, ?_⟩
    unfold Format.write
    exact ⟨(nearest_parts _ _ _).2.1, (nearest_parts _ _ _).2.2⟩
  · rw [e1]
    simp only [Datum.quotient, Option.map_some]
    obtain ⟨_, b, c⟩ := inf_parts (isNeg x ^^ isNeg y)
    exact ⟨_, rfl, by unfold Proper; exact Nat.le_of_eq b, c⟩
theorem sub_none {x y : Nat} (hx : ¬ Proper x) : double.sub x y = none := by
  unfold Format.sub Proper at *
  rw [read_nan (by omega)]
  simp [Datum.sum]
theorem div_none {x y : Nat} (hx : ¬ Proper x) : double.div x y = none := by
  unfold Format.div Proper at *
  rw [read_nan (by omega)]
  simp [Datum.quotient]
end Go.Proofs.Ytbaioodjcjbklaa
