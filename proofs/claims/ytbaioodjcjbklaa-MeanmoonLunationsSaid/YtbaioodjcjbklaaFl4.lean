/-
  Plain laws of double-precision numbers: sums, differences and products as nearest numbers; whole numbers.
-/
import Derived.Test.YtbaioodjcjbklaaFl3
import Derived.Test.YtbaioodjcjbklaaBase
import Derived.Laws.FloatArith
namespace Go.Proofs.Ytbaioodjcjbklaa
open Ieee
set_option exponentiation.threshold 2000
/-- d is the word nearest to E, 'z' the sign where E is nought -/
structure Near (E : Int) (z : Bool) (d : Nat) : Prop where
  lt : d < 18446744073709551616
  proper : rungOf d ≤ 9218868437227405312
  neg : isNeg d = if E = 0 then z else decide (E < 0)
  le : ∀ r, 2 * E.natAbs < V r + V (r + 1) → rungOf d ≤ r
  ge : ∀ r, r < 9218868437227405312 → V r + V (r + 1) < 2 * E.natAbs → r + 1 ≤ rungOf d
  err : ∀ j, rungOf d < 9218868437227405312 → E.natAbs < 9007199254740992 * 2 ^ j → 2 * V (rungOf d) ≤ 2 * E.natAbs + 2 ^ j ∧ 2 * E.natAbs ≤ 2 * V (rungOf d) + 2 ^ j
theorem Near.le_V {E : Int} {z : Bool} {d r : Nat} (h : Near E z d) (hr : E.natAbs ≤ V r) : rungOf d ≤ r := by
  apply h.le; have := V_succ r; omega
theorem Near.ge_V {E : Int} {z : Bool} {d r : Nat} (h : Near E z d) (hb : r ≤ 9218868437227405312) (hr : V r ≤ E.natAbs) : r ≤ rungOf d := by
  rcases Nat.eq_zero_or_pos r with h0 | h0
  · omega
  · obtain ⟨q, rfl⟩ : ∃ q, r = q + 1 := ⟨r - 1, by omega⟩
    have := V_succ q
    exact h.ge q (by omega) (by omega)
theorem Near.exact {E : Int} {z : Bool} {d r : Nat} (h : Near E z d) (hb : r ≤ 9218868437227405312) (hr : E.natAbs = V r) : rungOf d = r :=
  Nat.le_antisymm (h.le_V (by omega)) (h.ge_V hb (by omega))
theorem Near.exact_sval {E : Int} {z : Bool} {d r : Nat} (h : Near E z d) (hb : r ≤ 9218868437227405312) (hr : E.natAbs = V r) : sval d = E := by
  have e := h.exact hb hr
  have n := h.neg
  unfold sval
  rw [e, n, ← hr]
  by_cases h0 : E = 0
  · subst h0; simp
  · rw [if_neg h0]
    by_cases h1 : E < 0
    · simp [h1]; omega
    · simp [h1]; omega
theorem nearest_near (s : Bool) (m a : Nat) (E : Int) (z : Bool) (h : m * 2 ^ a = E.natAbs) (hs : s = if E = 0 then z else decide (E < 0)) : Near E z (double.nearest s m (-1074 + (a : Int))) := by
  obtain ⟨g, e, hg, l1, l2, l3⟩ := near_laws s m a 0
  have e' : -1074 + (a : Int) - ((0 : Nat) : Int) = -1074 + (a : Int) := by omega
  rw [e'] at e
  rw [e]
  obtain ⟨p1, p2, p3⟩ := word_parts (s := s) (show g < 9223372036854775808 by omega)
  simp only [h, Nat.pow_zero, Nat.mul_one] at l1 l2 l3
  exact ⟨p3, by rw [p2]; exact hg, by rw [p1]; exact hs, by rw [p2]; exact l1, by rw [p2]; exact l2, by rw [p2]; exact l3⟩
def dsign (s : Bool) (n : Nat) : Int := if s = true then -(n : Int) else (n : Int)
theorem sval_eq (x : Nat) : sval x = dsign (isNeg x) (V (rungOf x)) := rfl
theorem sum_near (s t : Bool) (m u n v : Nat) : ∃ d, ((Datum.number s m (-1074 + (u : Int))).sum (.number t n (-1074 + (v : Int)))).map double.write = some d ∧ Near (dsign s (m * 2 ^ u) + dsign t (n * 2 ^ v)) (s && t) d := by
  have hb : min (-1074 + (u : Int)) (-1074 + (v : Int)) = -1074 + ((min u v : Nat) : Int) := by omega
  have k1 : (-1074 + (u : Int) - (-1074 + ((min u v : Nat) : Int))).toNat = u - min u v := by omega
  have k2 : (-1074 + (v : Int) - (-1074 + ((min u v : Nat) : Int))).toNat = v - min u v := by omega
  have hc : (0 : Int) < ((2 ^ (min u v) : Nat) : Int) := by have := Nat.two_pow_pos (min u v); omega
  have q1 := signed_scale s m u (min u v) (Nat.min_le_left _ _)
  have q2 := signed_scale t n v (min u v) (Nat.min_le_right _ _)
  simp only [Datum.sum, hb, k1, k2, Option.map_some]
  refine ⟨_, rfl, ?_⟩
  unfold Format.write
  have q : (signed s m (u - min u v) + signed t n (v - min u v)) * ((2 ^ (min u v) : Nat) : Int) = dsign s (m * 2 ^ u) + dsign t (n * 2 ^ v) := by
    rw [Int.add_mul, q1, q2]; rfl
  generalize signed s m (u - min u v) + signed t n (v - min u v) = T at q ⊢
  generalize dsign s (m * 2 ^ u) + dsign t (n * 2 ^ v) = E at q ⊢
  refine nearest_near _ _ _ _ _ ?_ ?_
  · rw [← q, Int.natAbs_mul]; rfl
  · have z : E = 0 ↔ T = 0 := by
      rw [← q, Int.mul_eq_zero]; constructor
      · intro h; rcases h with h | h
        · exact h
        · omega
      · exact Or.inl
    by_cases h : T = 0
    · rw [if_pos h, if_pos (z.2 h)]
    · rw [if_neg h, if_neg (fun h' => h (z.1 h'))]
      rw [decide_eq_decide, ← q]
      constructor
      · intro h; exact Int.mul_neg_of_neg_of_pos h hc
      · intro h'; refine Int.lt_of_not_ge fun h2 => ?_
        have := Int.mul_nonneg h2 (Int.le_of_lt hc); omega
theorem add_near {x y : Nat} (hx : rungOf x < 9218868437227405312) (hy : rungOf y < 9218868437227405312) : ∃ d, double.add x y = some d ∧ Near (sval x + sval y) (isNeg x && isNeg y) d := by
  obtain ⟨m, u, e1, v1, _, _⟩ := read_fin hx
  obtain ⟨n, v, e2, v2, _, _⟩ := read_fin hy
  have := sum_near (isNeg x) (isNeg y) m u n v
  rw [v1, v2] at this
  unfold Format.add
  rw [e1, e2]; exact this
theorem sub_near {x y : Nat} (hx : rungOf x < 9218868437227405312) (hy : rungOf y < 9218868437227405312) : ∃ d, double.sub x y = some d ∧ Near (sval x - sval y) (isNeg x && !isNeg y) d := by
  obtain ⟨m, u, e1, v1, _, _⟩ := read_fin hx
  obtain ⟨n, v, e2, v2, _, _⟩ := read_fin hy
  have := sum_near (isNeg x) (!isNeg y) m u n v
  rw [v1, v2] at this
  unfold Format.sub
  rw [e1, e2]
  have e : sval x - sval y = dsign (isNeg x) (V (rungOf x)) + dsign (!isNeg y) (V (rungOf y)) := by
    rw [sval_eq, sval_eq]; unfold dsign; cases isNeg y <;> simp <;> omega
  rw [e]; exact this
theorem V_62 : V 4886405595696988160 = 4611686018427387904 * U := by
  rw [U_eq]; decide +kernel
theorem V_53 : V 4845873199050653696 = 9007199254740992 * U := by rw [U_eq]; decide +kernel
theorem V_one : V 4607182418800017408 = U := by rw [U_eq]; decide +kernel
theorem V_half : 2 * V 4602678819172646912 = U := by rw [U_eq]; decide +kernel
/-- a great number is whole -/
theorem V_great {r : Nat} (h : 9007199254740992 * U ≤ V r) : ∃ n, V r = n * U := by
  rw [U_eq] at *
  unfold V at *
  by_cases h1 : r < 4503599627370496
  · rw [if_pos h1] at h
    have : (1 : Nat) ≤ 2 ^ 1074 := Nat.one_le_two_pow
    have : 9007199254740992 * 1 ≤ 9007199254740992 * 2 ^ 1074 := Nat.mul_le_mul_left _ this
    generalize 9007199254740992 * 2 ^ 1074 = q at *
    omega
  · rw [if_neg h1] at h ⊢
    have hm : 4503599627370496 + r % 4503599627370496 < 9007199254740992 := by omega
    generalize 4503599627370496 + r % 4503599627370496 = m at h hm ⊢
    generalize r / 4503599627370496 - 1 = u at h ⊢
    have hu : 1074 ≤ u := by
      refine Nat.le_of_not_lt fun h2 => ?_
      have h3 : 2 ^ u ≤ 2 ^ 1074 := Nat.pow_le_pow_right (by decide) (by omega)
      have h4 : m * 2 ^ u ≤ m * 2 ^ 1074 := Nat.mul_le_mul_left _ h3
      have h5 : m * 2 ^ 1074 < 9007199254740992 * 2 ^ 1074 := Nat.mul_lt_mul_of_pos_right hm (Nat.pow_pos (by decide))
      exact absurd (Nat.lt_of_le_of_lt h4 h5) (Nat.not_lt.2 h)
    exact ⟨m * 2 ^ (u - 1074), by rw [Nat.mul_assoc, ← Nat.pow_add, show u - 1074 + 1074 = u by omega]⟩
theorem cutq_le (way : Toward) (s : Bool) (n d : Nat) : cutq way s n d ≤ n / d + 1 := by
  unfold cutq
  have h : ∀ b : Bool, b.toNat ≤ 1 := by decide
  exact Nat.add_le_add_left (h _) _
theorem cutq_mul (way : Toward) (s : Bool) (n : Nat) : cutq way s (n * U) U = n := by
  have hU := U_pos
  unfold cutq
  rw [Nat.mul_div_cancel _ hU, Nat.mul_mod_left]
  have h1 : ¬ (U < 2 * 0) := by omega
  have h2 : (U == 2 * 0) = false := by rw [beq_eq_false_iff_ne]; omega
  cases way <;> simp [h1, h2]
/-- the integral part of a word is a word -/
theorem int_parts (way : Toward) {x : Nat} (hx : rungOf x < 9218868437227405312) : ∃ r, vInt way x = double.word (isNeg x) r ∧ V r = cutq way (isNeg x) (V (rungOf x)) U * U ∧ r < 9218868437227405312 := by
  have hr : ∃ r, V r = cutq way (isNeg x) (V (rungOf x)) U * U ∧ r < 9218868437227405312 := by
    by_cases h : 9007199254740992 * U ≤ V (rungOf x)
    · obtain ⟨n, hn⟩ := V_great h
      exact ⟨rungOf x, by rw [hn, cutq_mul], hx⟩
    · have h1 : cutq way (isNeg x) (V (rungOf x)) U ≤ 9007199254740992 := by
        have := cutq_le way (isNeg x) (V (rungOf x)) U
        have : V (rungOf x) / U < 9007199254740992 := (Nat.div_lt_iff_lt_mul U_pos).2 (by omega)
        omega
      obtain ⟨r, hr⟩ := V_of 1074 _ h1
      rw [← U_eq] at hr
      refine ⟨r, hr, ?_⟩
      have h2 : V r ≤ V 4845873199050653696 := by rw [hr, V_53]; exact Nat.mul_le_mul_right _ h1
      have h3 : V 4845873199050653696 < V 9218868437227405312 := V_lt (by omega)
      exact V_lt_iff.1 (Nat.lt_of_le_of_lt h2 h3)
  obtain ⟨r, e, h⟩ := hr
  refine ⟨r, ?_, e, h⟩
  unfold vInt
  rw [integral_read way hx]
  have := near_exact (isNeg x) (m := cutq way (isNeg x) (V (rungOf x)) U) (a := 1074) (b := 0) h (by rw [← U_eq, e, Nat.pow_zero, Nat.mul_one])
  exact this
theorem to_int {y : Nat} (hy : rungOf y < 9218868437227405312) : (double.read y).toInt .zero = some (dsign (isNeg y) (V (rungOf y) / U)) := by
  unfold Datum.toInt
  rw [integral_read .zero hy, zero_cut]
  simp only [signed, dsign, Nat.shiftLeft_zero]
theorem to_i64 {y : Nat} (hy : rungOf y < 9218868437227405312) (hb : V (rungOf y) < 9223372036854775808 * U) : floatToIntVal .f64 y .i64 = some (dsign (isNeg y) (V (rungOf y) / U)) := by
  unfold floatToIntVal
  rw [show (FloatKind.f64.decode y).toInt .zero = _ from to_int hy]
  have h := (Nat.div_lt_iff_lt_mul U_pos).2 hb
  have : IntKind.i64.min ≤ dsign (isNeg y) (V (rungOf y) / U) ∧ dsign (isNeg y) (V (rungOf y) / U) ≤ IntKind.i64.max := by
    rw [show IntKind.i64.min = -9223372036854775808 by decide, show IntKind.i64.max = 9223372036854775807 by decide]
    unfold dsign
    generalize V (rungOf y) / U = q at h ⊢
    split <;> omega
  simp only [this, and_self, if_true]
/-- an integer that has a rung -/
theorem of_int {n : Int} {r : Nat} (hr : r < 9218868437227405312) (h : V r = n.natAbs * U) : floatOfInt .f64 n = double.word (decide (n < 0)) r := by
  have := near_exact (decide (n < 0)) (m := n.natAbs) (a := 1074) (b := 0) hr (by rw [← U_eq, h, Nat.pow_zero, Nat.mul_one])
  exact this
theorem sval_word {s : Bool} {r : Nat} (h : r < 9223372036854775808) : sval (double.word s r) = dsign s (V r) := by
  obtain ⟨a, b, _⟩ := word_parts (s := s) h
  rw [sval_eq, a, b]
end Go.Proofs.Ytbaioodjcjbklaa
