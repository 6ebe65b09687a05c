/-
  Plain laws of double-precision numbers: the integral part of a word, and rounding as an order law between rungs.
-/
import Derived.Test.YtbaioodjcjbklaaFl2
namespace Go.Proofs.Ytbaioodjcjbklaa
open Ieee
set_option exponentiation.threshold 2000
/-- the scale: one unit as a multiple of the least positive number -/
@[irreducible] def U : Nat := 2 ^ 1074
theorem U_eq : U = 2 ^ 1074 := by unfold U; rfl
theorem U_pos : 0 < U := by rw [U_eq]; exact Nat.pow_pos (by decide)
/-- the quotient n / d made whole -/
def cutq (way : Toward) (s : Bool) (n d : Nat) : Nat :=
  n / d + (match way with
    | .even => d < 2 * (n % d) || (d == 2 * (n % d) && n / d % 2 == 1)
    | .down => s && n % d != 0
    | .up => !s && n % d != 0
    | .zero => false : Bool).toNat
theorem cut_cutq (way : Toward) (s : Bool) (n d : Nat) : way.cut s n d = cutq way s n (2 ^ d) := by
  unfold Toward.cut cutq
  by_cases hd : d ≤ n.log2 + 2
  · rw [Nat.min_eq_left hd, Nat.one_shiftLeft]
    cases way <;> rfl
  · rw [Nat.min_eq_right (by omega), Nat.one_shiftLeft]
    have h1 : n < 2 ^ (n.log2 + 1) := by
      rcases Nat.eq_zero_or_pos n with h | h
      · subst h; decide
      · exact (Nat.log2_lt (by omega)).1 (by omega)
    have h2 : 2 ^ (n.log2 + 2) = 2 * 2 ^ (n.log2 + 1) := by rw [Nat.pow_succ 2 (n.log2 + 1)]; omega
    have h3 : 2 ^ (n.log2 + 2) ≤ 2 ^ d := Nat.pow_le_pow_right (by omega) (by omega)
    have a1 : n / 2 ^ (n.log2 + 2) = 0 := Nat.div_eq_of_lt (by omega)
    have a2 : n / 2 ^ d = 0 := Nat.div_eq_of_lt (by omega)
    have b1 : n % 2 ^ (n.log2 + 2) = n := Nat.mod_eq_of_lt (by omega)
    have b2 : n % 2 ^ d = n := Nat.mod_eq_of_lt (by omega)
    cases way <;> dsimp only <;> rw [a1, a2] <;> rw [b1, b2]
    · have c1 : ¬ (2 ^ (n.log2 + 2) < 2 * n) := by omega
      have c2 : ¬ (2 ^ d < 2 * n) := by omega
      simp [c1, c2]
theorem cutq_scale (way : Toward) (s : Bool) (n d a : Nat) (ha : 0 < a) : cutq way s (n * a) (d * a) = cutq way s n d := by
  unfold cutq
  rw [Nat.mul_div_mul_right _ _ ha, Nat.mul_mod_mul_right]
  have e : 2 * (n % d * a) = 2 * (n % d) * a := by rw [Nat.mul_assoc]
  cases way
  · simp only
    rw [e]
    have c1 : (d * a < 2 * (n % d) * a) ↔ d < 2 * (n % d) := Nat.mul_lt_mul_right ha
    have c2 : (d * a == 2 * (n % d) * a) = (d == 2 * (n % d)) := by
      rw [Bool.eq_iff_iff, beq_iff_eq, beq_iff_eq]; exact Nat.mul_left_inj (by omega)
    rw [c2]; simp only [c1]
  · have c : (n % d * a != 0) = (n % d != 0) := by
      rw [Bool.eq_iff_iff, bne_iff_ne, bne_iff_ne]
      constructor
      · intro h h'; rw [h', Nat.zero_mul] at h; exact h rfl
      · intro h h'; rcases Nat.mul_eq_zero.1 h' with h' | h' <;> omega
    simp only [c]
  · have c : (n % d * a != 0) = (n % d != 0) := by
      rw [Bool.eq_iff_iff, bne_iff_ne, bne_iff_ne]
      constructor
      · intro h h'; rw [h', Nat.zero_mul] at h; exact h rfl
      · intro h h'; rcases Nat.mul_eq_zero.1 h' with h' | h' <;> omega
    simp only [c]
  · rfl
theorem integral_read {x : Nat} (way : Toward) (hx : rungOf x < 9218868437227405312) : (double.read x).integral way = .number (isNeg x) (cutq way (isNeg x) (V (rungOf x)) U) 0 := by
  obtain ⟨m, u, e, hv, _, _⟩ := read_fin hx
  rw [e]
  show Datum.number _ (way.cut _ (m <<< (-1074 + (u : Int)).toNat) (-(-1074 + (u : Int))).toNat) 0 = _
  rw [cut_cutq, Nat.shiftLeft_eq, ← hv, U_eq]
  congr 1
  by_cases h : 1074 ≤ u
  · rw [show (-1074 + (u : Int)).toNat = u - 1074 by omega, show (-(-1074 + (u : Int))).toNat = 0 by omega]
    have := cutq_scale way (isNeg x) (m * 2 ^ (u - 1074)) (2 ^ 0) (2 ^ 1074) (Nat.pow_pos (by decide))
    rw [← this, Nat.mul_assoc, ← Nat.pow_add, ← Nat.pow_add, show u - 1074 + 1074 = u by omega, show 0 + 1074 = 1074 by omega]
  · rw [show (-1074 + (u : Int)).toNat = 0 by omega, show (-(-1074 + (u : Int))).toNat = 1074 - u by omega]
    have := cutq_scale way (isNeg x) (m * 2 ^ 0) (2 ^ (1074 - u)) (2 ^ u) (Nat.pow_pos (by decide))
    rw [← this, Nat.mul_assoc, ← Nat.pow_add, ← Nat.pow_add, show 0 + u = u by omega, show 1074 - u + u = 1074 by omega]
theorem V_kc {k c : Nat} (hc : c ≤ 9007199254740992) (hk : k = 0 ∨ 4503599627370496 ≤ c) : V (k * 4503599627370496 + c) = c * 2 ^ k := by
  unfold V
  by_cases h1 : k * 4503599627370496 + c < 4503599627370496
  · have : k = 0 := by omega
    subst this
    rw [if_pos h1]; omega
  · rw [if_neg h1]
    by_cases h2 : c = 9007199254740992
    · subst h2
      rw [show (k * 4503599627370496 + 9007199254740992) % 4503599627370496 = 0 by omega, show (k * 4503599627370496 + 9007199254740992) / 4503599627370496 - 1 = k + 1 by omega, Nat.pow_succ]
      omega
    · rw [show (k * 4503599627370496 + c) % 4503599627370496 = c - 4503599627370496 by omega, show (k * 4503599627370496 + c) / 4503599627370496 - 1 = k by omega, show 4503599627370496 + (c - 4503599627370496) = c by omega]
/-- every number of at most 53 binary digits has a rung -/
theorem V_of (k : Nat) : ∀ m : Nat, m ≤ 9007199254740992 → ∃ r, V r = m * 2 ^ k := by
  induction k with
  | zero => intro m hm; exact ⟨0 * 4503599627370496 + m, V_kc hm (Or.inl rfl)⟩
  | succ k ih =>
    intro m hm
    by_cases h : m < 4503599627370496
    · obtain ⟨r, hr⟩ := ih (2 * m) (by omega)
      exact ⟨r, by rw [hr, Nat.pow_succ]; rw [Nat.mul_comm 2 m, Nat.mul_assoc, Nat.mul_comm 2 (2 ^ k)]⟩
    · exact ⟨(k + 1) * 4503599627370496 + m, V_kc hm (Or.inr (by omega))⟩
theorem even_spec (s : Bool) (n d : Nat) (hd : 0 < d) : 2 * n ≤ (2 * cutq .even s n d + 1) * d ∧ 2 * cutq .even s n d * d ≤ 2 * n + d ∧
    (2 * n = (2 * cutq .even s n d + 1) * d → cutq .even s n d % 2 = 0) ∧ (2 * cutq .even s n d * d = 2 * n + d → cutq .even s n d % 2 = 0) := by
  have h := Nat.div_add_mod n d
  have hr := Nat.mod_lt n hd
  unfold cutq
  simp only
  generalize n / d = q at h ⊢
  generalize n % d = r at h hr ⊢
  have e1 : (2 * q + 1) * d = 2 * (d * q) + d := by rw [Nat.add_mul, Nat.mul_assoc, Nat.mul_comm q d, Nat.one_mul]
  have e2 : (2 * (q + 1) + 1) * d = 2 * (d * q) + 3 * d := by rw [show 2 * (q + 1) + 1 = 2 * q + 3 by omega, Nat.add_mul, Nat.mul_assoc, Nat.mul_comm q d]
  have e3 : 2 * q * d = 2 * (d * q) := by rw [Nat.mul_assoc, Nat.mul_comm q d]
  have e4 : 2 * (q + 1) * d = 2 * (d * q) + 2 * d := by rw [show 2 * (q + 1) = 2 * q + 2 by omega, Nat.add_mul, Nat.mul_assoc, Nat.mul_comm q d]
  generalize d * q = t at *
  by_cases c1 : d < 2 * r
  · simp only [c1, decide_true, Bool.true_or, Bool.toNat_true, e2, e4]
    refine ⟨by omega, by omega, ?_, ?_⟩ <;> intro _ <;> omega
  · by_cases c2 : d = 2 * r
    · by_cases c3 : q % 2 = 1
      · have : (d == 2 * r && q % 2 == 1) = true := by simp [c3]; exact c2
        simp only [c1, decide_false, Bool.false_or, this, Bool.toNat_true, e2, e4]
        refine ⟨by omega, by omega, ?_, ?_⟩ <;> intro _ <;> omega
      · have : (d == 2 * r && q % 2 == 1) = false := by simp [c3]
        simp only [c1, decide_false, Bool.false_or, this, Bool.toNat_false, Nat.add_zero, e1, e3]
        refine ⟨by omega, by omega, ?_, ?_⟩ <;> intro _ <;> omega
    · have : (d == 2 * r && q % 2 == 1) = false := by simp [c2]
      simp only [c1, decide_false, Bool.false_or, this, Bool.toNat_false, Nat.add_zero, e1, e3]
      refine ⟨by omega, by omega, ?_, ?_⟩ <;> intro _ <;> omega
theorem down_pos (n d : Nat) : cutq .down false n d = n / d := by unfold cutq; simp
theorem down_neg (n d : Nat) : cutq .down true n d = n / d + (if n % d = 0 then 0 else 1) := by
  unfold cutq
  by_cases h : n % d = 0 <;> simp [h]
theorem zero_cut (s : Bool) (n d : Nat) : cutq .zero s n d = n / d := by unfold cutq; simp
/-- ROUNDING: the significand and the binade -/
theorem near_spec (s : Bool) (m a b : Nat) (hm : 0 < m) : ∃ k c, double.nearest s m (-1074 + (a : Int) - (b : Int)) = double.word s (min (k * 4503599627370496 + c) 9218868437227405312) ∧ c ≤ 9007199254740992 ∧
    (k = 0 ∨ 4503599627370496 ≤ c) ∧ (k = 0 ∨ 4503599627370496 * (2 ^ k * 2 ^ b) ≤ m * 2 ^ a) ∧ m * 2 ^ a < 9007199254740992 * (2 ^ k * 2 ^ b) ∧
    2 * (m * 2 ^ a) ≤ (2 * c + 1) * (2 ^ k * 2 ^ b) ∧ 2 * c * (2 ^ k * 2 ^ b) ≤ 2 * (m * 2 ^ a) + 2 ^ k * 2 ^ b := by
  let p : Int := -1074 + (a : Int) - (b : Int)
  let last : Int := max (p + m.log2 - 52) (-1074)
  let g := (p - last).toNat
  let h := (last - p).toNat
  let k := (last + 1074).toNat
  have hl : -1074 ≤ last := by show -1074 ≤ max _ _; omega
  have hgh : g + k + b = a + h := by show (p - last).toNat + (last + 1074).toNat + b = a + (last - p).toNat; omega
  have hgL : g + m.log2 ≤ 52 + h := by
    show (p - last).toNat + m.log2 ≤ 52 + (last - p).toNat
    have : p + m.log2 - 52 ≤ last := by show _ ≤ max _ _; omega
    have hz : g = 0 ∨ h = 0 := by show (p - last).toNat = 0 ∨ (last - p).toNat = 0; omega
    omega
  have hgK : k ≠ 0 → g + m.log2 = 52 + h := by
    intro hk
    have : last = p + m.log2 - 52 := by
      have : last = p + m.log2 - 52 ∨ last = -1074 := by show max _ _ = _ ∨ max _ _ = _; omega
      rcases this with h | h
      · exact h
      · exfalso; apply hk; show (last + 1074).toNat = 0; omega
    show (p - last).toNat + m.log2 = 52 + (last - p).toNat
    omega
  have hL : 2 ^ m.log2 ≤ m := Nat.log2_self_le (by omega)
  have hL2 : m < 2 ^ (m.log2 + 1) := (Nat.log2_lt (by omega)).1 (by omega)
  have key : m * 2 ^ g * (2 ^ k * 2 ^ b) = m * 2 ^ a * 2 ^ h := by
    rw [Nat.mul_assoc, Nat.mul_assoc, ← Nat.pow_add, ← Nat.pow_add, ← Nat.pow_add, show g + (k + b) = a + h by omega]
  have dh : 0 < 2 ^ h := Nat.pow_pos (by decide)
  have dk : 0 < 2 ^ k * 2 ^ b := Nat.mul_pos (Nat.pow_pos (by decide)) (Nat.pow_pos (by decide))
  have hN : m * 2 ^ g < 9007199254740992 * 2 ^ h := by
    calc m * 2 ^ g < 2 ^ (m.log2 + 1) * 2 ^ g := Nat.mul_lt_mul_of_pos_right hL2 (Nat.pow_pos (by decide))
      _ = 2 ^ (m.log2 + 1 + g) := by rw [← Nat.pow_add]
      _ ≤ 2 ^ (53 + h) := Nat.pow_le_pow_right (by decide) (by omega)
      _ = 9007199254740992 * 2 ^ h := by rw [Nat.pow_add]
  have hN2 : k = 0 ∨ 4503599627370496 * 2 ^ h ≤ m * 2 ^ g := by
    by_cases hk : k = 0
    · exact Or.inl hk
    · right
      calc 4503599627370496 * 2 ^ h = 2 ^ (52 + h) := by rw [Nat.pow_add]
        _ = 2 ^ m.log2 * 2 ^ g := by rw [← Nat.pow_add, ← hgK hk, Nat.add_comm]
        _ ≤ m * 2 ^ g := Nat.mul_le_mul_right _ hL
  obtain ⟨s1, s2, _, _⟩ := even_spec s (m * 2 ^ g) (2 ^ h) dh
  refine ⟨k, cutq .even s (m * 2 ^ g) (2 ^ h), ?_, ?_, ?_, ?_, ?_, ?_, ?_⟩
  · show (if m = 0 then double.word s 0 else _) = _
    rw [if_neg (by omega)]
    show double.word s (min ((max (p + m.log2 - (double.fractionBits : Int)) double.leastPlace - double.leastPlace).toNat * double.binade + Toward.even.cut s (m <<< (p - max (p + m.log2 - (double.fractionBits : Int)) double.leastPlace).toNat) (max (p + m.log2 - (double.fractionBits : Int)) double.leastPlace - p).toNat) double.infRung) = _
    rw [leastPlace_double, binade_double, infRung_double, cut_cutq, Nat.shiftLeft_eq]
    congr 3
  all_goals generalize cutq .even s (m * 2 ^ g) (2 ^ h) = c at s1 s2 ⊢
  all_goals generalize m * 2 ^ g = N at *
  all_goals generalize m * 2 ^ a = E at *
  all_goals generalize 2 ^ k * 2 ^ b = K at *
  all_goals generalize 2 ^ h = D at *
  · have : 2 * c * D < 18014398509481985 * D := by omega
    have := Nat.lt_of_mul_lt_mul_right this
    omega
  · rcases hN2 with h | h
    · exact Or.inl h
    · right
      have : 9007199254740992 * D ≤ (2 * c + 1) * D := by omega
      have := Nat.le_of_mul_le_mul_right this dh
      omega
  · rcases hN2 with h | h
    · exact Or.inl h
    · right
      refine Nat.le_of_mul_le_mul_right ?_ dh
      calc 4503599627370496 * K * D = 4503599627370496 * D * K := by rw [Nat.mul_assoc, Nat.mul_comm K D, Nat.mul_assoc]
        _ ≤ N * K := Nat.mul_le_mul_right _ h
        _ = E * D := key
  · refine Nat.lt_of_mul_lt_mul_right (a := D) ?_
    calc E * D = N * K := key.symm
      _ < 9007199254740992 * D * K := Nat.mul_lt_mul_of_pos_right hN dk
      _ = 9007199254740992 * K * D := by rw [Nat.mul_assoc, Nat.mul_comm D K, Nat.mul_assoc]
  · refine Nat.le_of_mul_le_mul_right ?_ dh
    calc 2 * E * D = 2 * N * K := by rw [Nat.mul_assoc, ← key, Nat.mul_assoc]
      _ ≤ (2 * c + 1) * D * K := Nat.mul_le_mul_right _ s1
      _ = (2 * c + 1) * K * D := by rw [Nat.mul_assoc, Nat.mul_comm D K, Nat.mul_assoc]
  · refine Nat.le_of_mul_le_mul_right ?_ dh
    calc 2 * c * K * D = 2 * c * D * K := Nat.mul_right_comm _ _ _
      _ ≤ (2 * N + D) * K := Nat.mul_le_mul_right _ s2
      _ = (2 * E + K) * D := by rw [Nat.add_mul, Nat.add_mul, Nat.mul_assoc, key, Nat.mul_assoc, Nat.mul_comm K D]
/-- ROUNDING AND THE RUNGS: the facts that later proofs use. 'E' is the exact number, 'B' its scale. -/
theorem near_laws (s : Bool) (m a b : Nat) : ∃ g, double.nearest s m (-1074 + (a : Int) - (b : Int)) = double.word s g ∧ g ≤ 9218868437227405312 ∧
    (∀ r, 2 * (m * 2 ^ a) < (V r + V (r + 1)) * 2 ^ b → g ≤ r) ∧
    (∀ r, r < 9218868437227405312 → (V r + V (r + 1)) * 2 ^ b < 2 * (m * 2 ^ a) → r + 1 ≤ g) ∧
    (∀ j, g < 9218868437227405312 → m * 2 ^ a < 9007199254740992 * (2 ^ j * 2 ^ b) → 2 * (V g * 2 ^ b) ≤ 2 * (m * 2 ^ a) + 2 ^ j * 2 ^ b ∧ 2 * (m * 2 ^ a) ≤ 2 * (V g * 2 ^ b) + 2 ^ j * 2 ^ b) := by
  have hB : 0 < 2 ^ b := Nat.pow_pos (by decide)
  rcases Nat.eq_zero_or_pos m with h0 | hm
  · subst h0
    refine ⟨0, if_pos rfl, by omega, fun _ _ => Nat.zero_le _, ?_, ?_⟩
    · intro r _ h
      rw [Nat.zero_mul] at h; omega
    · intro j _ _
      rw [V_zero]; omega
  · obtain ⟨k, c, e, hc, hk, h1, h2, h3, h4⟩ := near_spec s m a b hm
    have hV := V_kc hc hk
    have hVs : c < 9007199254740992 → V (k * 4503599627370496 + c + 1) = (c + 1) * 2 ^ k := fun h => by
      have := V_kc (k := k) (c := c + 1) (by omega) (by omega)
      rw [Nat.add_assoc]; exact this
    have hVp : k = 0 ∨ 4503599627370496 < c → 0 < c → ∃ r, r + 1 = k * 4503599627370496 + c ∧ V r = (c - 1) * 2 ^ k := fun h h' => by
      have := V_kc (k := k) (c := c - 1) (by omega) (by omega)
      exact ⟨k * 4503599627370496 + (c - 1), by omega, this⟩
    have hK : 0 < 2 ^ k * 2 ^ b := Nat.mul_pos (Nat.pow_pos (by decide)) hB
    refine ⟨_, e, Nat.min_le_right _ _, ?_, ?_, ?_⟩
    · intro r hr
      refine Nat.le_trans (Nat.min_le_left _ _) ?_
      refine Nat.le_of_not_lt fun hlt => ?_
      have v1 : V (r + 1) ≤ c * 2 ^ k := by rw [← hV]; exact V_le (by omega)
      by_cases hb : k = 0 ∨ 4503599627370496 < c
      · have c0 : 0 < c := by
          rcases hb with h | h
          · omega
          · omega
        obtain ⟨q, hq, vq⟩ := hVp hb c0
        have v2 : V r ≤ (c - 1) * 2 ^ k := by rw [← vq]; exact V_le (by omega)
        have : (V r + V (r + 1)) * 2 ^ b ≤ (2 * c - 1) * (2 ^ k * 2 ^ b) := by
          rw [← Nat.mul_assoc]
          refine Nat.mul_le_mul_right _ ?_
          rw [show 2 * c - 1 = (c - 1) + c by omega, Nat.add_mul]; omega
        have h5 : (2 * c - 1) * (2 ^ k * 2 ^ b) + 2 ^ k * 2 ^ b = 2 * c * (2 ^ k * 2 ^ b) := by
          rw [← Nat.succ_mul]; congr 1; omega
        omega
      · have hc2 : c = 4503599627370496 := by omega
        have v2 : V r < V (r + 1) := V_succ r
        have : (V r + V (r + 1)) * 2 ^ b ≤ 2 * (c * 2 ^ k) * 2 ^ b := Nat.mul_le_mul_right _ (by omega)
        have h5 : 2 * (c * 2 ^ k) * 2 ^ b = 2 * (4503599627370496 * (2 ^ k * 2 ^ b)) := by
          rw [hc2]; simp only [Nat.mul_assoc]
        have : 4503599627370496 * (2 ^ k * 2 ^ b) ≤ m * 2 ^ a := by
          rcases h1 with h | h
          · omega
          · exact h
        omega
    · intro r hr hlt
      refine Nat.le_min.2 ⟨?_, hr⟩
      refine Nat.le_of_not_lt fun hlt2 => ?_
      have v1 : c * 2 ^ k ≤ V r := by rw [← hV]; exact V_le (by omega)
      by_cases hb : c < 9007199254740992
      · have v2 : (c + 1) * 2 ^ k ≤ V (r + 1) := by rw [← hVs hb]; exact V_le (by omega)
        have : (2 * c + 1) * (2 ^ k * 2 ^ b) ≤ (V r + V (r + 1)) * 2 ^ b := by
          rw [← Nat.mul_assoc]
          refine Nat.mul_le_mul_right _ ?_
          rw [show 2 * c + 1 = c + (c + 1) by omega, Nat.add_mul]; omega
        omega
      · have hc2 : c = 9007199254740992 := by omega
        have v2 : V r < V (r + 1) := V_succ r
        have : 2 * (c * 2 ^ k) * 2 ^ b ≤ (V r + V (r + 1)) * 2 ^ b := Nat.mul_le_mul_right _ (by omega)
        have h5 : 2 * (c * 2 ^ k) * 2 ^ b = 2 * (9007199254740992 * (2 ^ k * 2 ^ b)) := by
          rw [hc2]; simp only [Nat.mul_assoc]
        omega
    · intro j hg hj
      have hg' : k * 4503599627370496 + c < 9218868437227405312 := Nat.lt_of_not_le fun h => by
        rw [Nat.min_eq_right h] at hg; exact Nat.lt_irrefl _ hg
      rw [Nat.min_eq_left (Nat.le_of_lt hg'), hV]
      have hkj : 2 ^ k * 2 ^ b ≤ 2 ^ j * 2 ^ b := by
        refine Nat.mul_le_mul_right _ (Nat.pow_le_pow_right (by decide) ?_)
        rcases h1 with h | h
        · omega
        · have h5 : 4503599627370496 * (2 ^ k * 2 ^ b) < 9007199254740992 * (2 ^ j * 2 ^ b) := by omega
          rw [← Nat.mul_assoc, ← Nat.mul_assoc] at h5
          have h6 := Nat.lt_of_mul_lt_mul_right h5
          have h7 : 2 ^ k < 2 ^ (j + 1) := by rw [Nat.pow_succ]; omega
          have := (Nat.pow_lt_pow_iff_right (by decide : 1 < 2)).1 h7
          omega
      have h8 : (2 * c + 1) * (2 ^ k * 2 ^ b) = 2 * (c * 2 ^ k * 2 ^ b) + 2 ^ k * 2 ^ b := by
        rw [Nat.succ_mul]; simp only [Nat.mul_assoc]
      have h9 : 2 * c * (2 ^ k * 2 ^ b) = 2 * (c * 2 ^ k * 2 ^ b) := by simp only [Nat.mul_assoc]
      omega
/-- a number of the format is its own nearest -/
theorem near_exact (s : Bool) {m a b r : Nat} (hr : r < 9218868437227405312) (h : m * 2 ^ a = V r * 2 ^ b) : double.nearest s m (-1074 + (a : Int) - (b : Int)) = double.word s r := by
  obtain ⟨g, e, hg, l1, l2, _⟩ := near_laws s m a b
  have hB : 0 < 2 ^ b := Nat.pow_pos (by decide)
  have a1 : g ≤ r := by
    apply l1
    rw [h, Nat.add_mul]
    have := Nat.mul_lt_mul_of_pos_right (V_succ r) hB
    omega
  have a2 : r ≤ g := by
    rcases Nat.eq_zero_or_pos r with h0 | h0
    · omega
    · obtain ⟨q, rfl⟩ : ∃ q, r = q + 1 := ⟨r - 1, by omega⟩
      apply l2 q (by omega)
      rw [h, Nat.add_mul]
      have := Nat.mul_lt_mul_of_pos_right (V_succ q) hB
      omega
  rw [e, show g = r by omega]
end Go.Proofs.Ytbaioodjcjbklaa
