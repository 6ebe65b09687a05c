/-
  Plain laws of double-precision numbers: quotients, and the sizes of rounding errors.
-/
import Derived.Test.YtbaioodjcjbklaaBase7
namespace Go.Proofs.Ytbaioodjcjbklaa
set_option exponentiation.threshold 2000
theorem ac1 (a b c d : Nat) : a * b * (c * d) = a * c * d * b := by simp only [Nat.mul_assoc, Nat.mul_comm, Nat.mul_left_comm]
theorem ac2 (k v u g : Nat) : k * 2 * (v * u * g) = k * (v * u) * (2 * g) := by simp only [Nat.mul_assoc, Nat.mul_comm, Nat.mul_left_comm]
theorem ac3 (m g u c : Nat) : m * g * (u * c) = m * u * c * g := by simp only [Nat.mul_assoc, Nat.mul_comm, Nat.mul_left_comm]
theorem ac4 (r v g n : Nat) : r * (v * g * 2) * n = r * (n * v) * (2 * g) := by simp only [Nat.mul_assoc, Nat.mul_comm, Nat.mul_left_comm]
theorem ac5 (k m g a : Nat) : k * (2 * (m * g)) * a = k * 2 * (m * g * a) := by simp only [Nat.mul_assoc, Nat.mul_comm, Nat.mul_left_comm]
theorem bg0' {n t h k : Nat} (hk : k = 2 * h) (h1 : n * h ≤ t) : n * k ≤ 2 * t := by
  rw [hk, Nat.mul_left_comm]; exact Nat.mul_le_mul_left _ h1
theorem bg0 {n t : Nat} (h : n * 9007199254740992 ≤ t) : n * 18014398509481984 ≤ 2 * t := bg0' rfl h
theorem bg1 {n t : Nat} (h : n * 9007199254740992 ≤ t) : n * 18014398509481984 ≤ 2 * t + n := Nat.le_trans (bg0 h) (Nat.le_add_right _ _)
theorem bg2' {p m n j k : Nat} (hk : k = j + 1) (h1 : p ≤ m + n) (h4 : n * k ≤ p) : p * j ≤ k * m := by
  have h2 := Nat.mul_le_mul_left k h1
  have e1 : k * p = p * j + p := by rw [hk, Nat.mul_comm, Nat.mul_succ]
  have e2 : k * (m + n) = k * m + n * k := by rw [Nat.mul_add, Nat.mul_comm k n]
  rw [e1, e2] at h2
  exact Nat.le_of_add_le_add_right (Nat.le_trans h2 (Nat.add_le_add_left h4 _))
theorem bg2 {p m n : Nat} (h1 : p ≤ 2 * m + n) (h4 : n * 18014398509481984 ≤ p) : p * 18014398509481983 ≤ 18014398509481984 * (2 * m) := bg2' rfl h1 h4
theorem bg3' {p m n j k : Nat} (hk : j = k + 1) (h1 : m ≤ p + n) (h4 : n * k ≤ p) : k * m ≤ p * j := by
  have h2 := Nat.mul_le_mul_left k h1
  have e1 : p * j = k * p + p := by rw [hk, Nat.mul_succ, Nat.mul_comm]
  have e2 : k * (p + n) = k * p + n * k := by rw [Nat.mul_add, Nat.mul_comm k n]
  rw [e2] at h2
  rw [e1]
  exact Nat.le_trans h2 (Nat.add_le_add_left h4 _)
theorem bg3 {p m n : Nat} (h1 : 2 * m ≤ p + n) (h4 : n * 18014398509481984 ≤ p) : 18014398509481984 * (2 * m) ≤ p * 18014398509481985 := bg3' rfl h1 h4
/-- a quotient, between bounds -/
theorem div_bounds {x y : Nat} (hx : rungOf x < 9218868437227405312) (hy : rungOf y < 9218868437227405312) (h0 : rungOf y ≠ 0) : ∃ q, Ieee.double.div x y = some q ∧ q < 18446744073709551616 ∧ isNeg q = (isNeg x ^^ isNeg y) ∧
    (∀ r, 18014398509481984 * (V (rungOf x) * U) ≤ V r * V (rungOf y) * 18014398509481983 → rungOf q ≤ r) ∧
    (∀ r, r ≤ 9218868437227405312 → V r * V (rungOf y) * 18014398509481985 ≤ 18014398509481984 * (V (rungOf x) * U) → r ≤ rungOf q) := by
  obtain ⟨m, u, e1, v1, _, _⟩ := read_fin hx
  obtain ⟨n, v, e2, v2, _, _⟩ := read_fin hy
  have hn : 0 < n := by
    rcases Nat.eq_zero_or_pos n with h | h
    · exfalso; rw [h, Nat.zero_mul] at v2; have := V_lt (Nat.pos_of_ne_zero h0); omega
    · exact h
  let g := 54 + n.log2 - m.log2
  let N := 2 * ((m <<< g) / n) + ((m <<< g) % n != 0).toNat
  obtain ⟨r0, e, hg, l1, l2, _⟩ := near_laws (isNeg x ^^ isNeg y) N (u + 1074) (v + g + 1)
  have hp : (-1074 + (u : Int)) - (-1074 + (v : Int)) - (g : Int) - 1 = -1074 + ((u + 1074 : Nat) : Int) - ((v + g + 1 : Nat) : Int) := by omega
  have hdiv : Ieee.double.div x y = some (Ieee.double.word (isNeg x ^^ isNeg y) r0) := by
    unfold Ieee.Format.div
    rw [e1, e2]
    simp only [Ieee.Datum.quotient]
    rw [if_neg (by omega)]
    show some (Ieee.double.nearest (isNeg x ^^ isNeg y) N ((-1074 + (u : Int)) - (-1074 + (v : Int)) - (g : Int) - 1)) = _
    rw [hp]; exact congrArg some e
  obtain ⟨p1, p2, p3⟩ := word_parts (s := isNeg x ^^ isNeg y) (show r0 < 9223372036854775808 by omega)
  have hdm := Nat.div_add_mod (m * 2 ^ g) n
  have hml := Nat.mod_lt (m * 2 ^ g) hn
  have hNe : N = 2 * (m * 2 ^ g / n) + (m * 2 ^ g % n != 0).toNat := by
    show 2 * ((m <<< g) / n) + ((m <<< g) % n != 0).toNat = _
    rw [Nat.shiftLeft_eq]
  have hq : m ≠ 0 → 9007199254740992 ≤ m * 2 ^ g / n := fun hm => by
    rw [Nat.le_div_iff_mul_le hn]
    have a1 : 2 ^ m.log2 ≤ m := Nat.log2_self_le hm
    have a2 : n < 2 ^ (n.log2 + 1) := (Nat.log2_lt (by omega)).1 (by omega)
    calc 9007199254740992 * n ≤ 9007199254740992 * 2 ^ (n.log2 + 1) := Nat.mul_le_mul_left _ (Nat.le_of_lt a2)
      _ = 2 ^ (54 + n.log2) := by rw [show (9007199254740992 : Nat) = 2 ^ 53 from rfl, ← Nat.pow_add]; congr 1; omega
      _ ≤ 2 ^ (m.log2 + g) := Nat.pow_le_pow_right (by decide) (by show 54 + n.log2 ≤ m.log2 + (54 + n.log2 - m.log2); omega)
      _ = 2 ^ m.log2 * 2 ^ g := Nat.pow_add _ _ _
      _ ≤ m * 2 ^ g := Nat.mul_le_mul_right _ a1
  have hNn : N * n ≤ 2 * (m * 2 ^ g) + n ∧ 2 * (m * 2 ^ g) ≤ N * n + n ∧ (m = 0 → N = 0) ∧ (m ≠ 0 → n * 18014398509481984 ≤ N * n) := by
    have hmz : m = 0 → m * 2 ^ g = 0 := fun h => by rw [h, Nat.zero_mul]
    rw [hNe]
    generalize m * 2 ^ g = M at *
    have hcom : (2 * (M / n) + (M % n != 0).toNat) * n = 2 * (n * (M / n)) + (M % n != 0).toNat * n := by
      rw [Nat.add_mul, Nat.mul_assoc, Nat.mul_comm (M / n)]
    have hbig : m ≠ 0 → n * 9007199254740992 ≤ n * (M / n) := fun h => Nat.mul_le_mul_left _ (hq h)
    have hm0 : m = 0 → M / n = 0 ∧ M % n = 0 := fun h => by rw [hmz h]; exact ⟨Nat.zero_div _, Nat.zero_mod _⟩
    rw [hcom]
    generalize n * (M / n) = t at *
    by_cases hz : M % n = 0
    · have hb : (M % n != 0) = false := by rw [hz]; rfl
      rw [hb]
      simp only [Bool.toNat_false, Nat.zero_mul, Nat.add_zero]
      refine ⟨by omega, by omega, fun h => by rw [(hm0 h).1], fun h => bg0 (hbig h)⟩
    · have hb : (M % n != 0) = true := by rw [bne_iff_ne]; exact hz
      rw [hb]
      simp only [Bool.toNat_true, Nat.one_mul]
      refine ⟨by omega, by omega, fun h => absurd (hm0 h).2 hz, fun h => bg1 (hbig h)⟩
  clear_value N
  obtain ⟨n1, n2, n3, n4⟩ := hNn
  have hA : m * 2 ^ g * 2 ^ (u + 1074) = V (rungOf x) * U * 2 ^ g := by
    rw [← v1, U_eq, Nat.pow_add, ac3]
  have hB : ∀ r, V r * 2 ^ (v + g + 1) * n = V r * V (rungOf y) * (2 * 2 ^ g) := fun r => by
    rw [← v2, Nat.pow_add, Nat.pow_add, Nat.pow_one, ac4]
  have hP : 0 < 2 ^ (v + g + 1) := Nat.pow_pos (by decide)
  refine ⟨_, hdiv, p3, p1, ?_, ?_⟩
  all_goals rw [p2]
  · intro r hr
    apply l1
    have hle : N * 2 ^ (u + 1074) ≤ V r * 2 ^ (v + g + 1) := by
      by_cases hm : m = 0
      · rw [n3 hm, Nat.zero_mul]; exact Nat.zero_le _
      · have n4 := n4 hm
        have k1 : N * n * 18014398509481983 ≤ 18014398509481984 * (2 * (m * 2 ^ g)) := bg2 n1 n4
        refine Nat.le_of_mul_le_mul_right (c := n * 18014398509481983) ?_ (Nat.mul_pos hn (by decide))
        calc N * 2 ^ (u + 1074) * (n * 18014398509481983) = N * n * 18014398509481983 * 2 ^ (u + 1074) := ac1 _ _ _ _
          _ ≤ 18014398509481984 * (2 * (m * 2 ^ g)) * 2 ^ (u + 1074) := Nat.mul_le_mul_right _ k1
          _ = 18014398509481984 * 2 * (m * 2 ^ g * 2 ^ (u + 1074)) := ac5 _ _ _ _
          _ = 18014398509481984 * (V (rungOf x) * U) * (2 * 2 ^ g) := by rw [hA, ac2]
          _ ≤ V r * V (rungOf y) * 18014398509481983 * (2 * 2 ^ g) := Nat.mul_le_mul_right _ hr
          _ = V r * V (rungOf y) * (2 * 2 ^ g) * 18014398509481983 := Nat.mul_right_comm _ _ _
          _ = V r * 2 ^ (v + g + 1) * (n * 18014398509481983) := by rw [← hB r]; exact Nat.mul_assoc _ _ _
    have := Nat.mul_lt_mul_of_pos_right (V_succ r) hP
    rw [Nat.add_mul]; omega
  · intro r hrb hr
    rcases Nat.eq_zero_or_pos r with hr0 | hr0
    · omega
    · obtain ⟨k, rfl⟩ : ∃ k, r = k + 1 := ⟨r - 1, by omega⟩
      apply l2 k (by omega)
      have hle : V (k + 1) * 2 ^ (v + g + 1) ≤ N * 2 ^ (u + 1074) := by
        have hm : m ≠ 0 := fun hm => by
          have hv0 : V (rungOf x) = 0 := by rw [← v1, hm, Nat.zero_mul]
          rw [hv0, Nat.zero_mul, Nat.mul_zero] at hr
          have h1 : 0 < V (k + 1) := Nat.lt_of_le_of_lt (Nat.zero_le _) (V_succ k)
          have h2 : 0 < V (rungOf y) := by have := V_lt (Nat.pos_of_ne_zero h0); omega
          have := Nat.mul_pos (Nat.mul_pos h1 h2) (show 0 < 18014398509481985 by decide)
          omega
        have n4 := n4 hm
        have k1 : 18014398509481984 * (2 * (m * 2 ^ g)) ≤ N * n * 18014398509481985 := bg3 n2 n4
        refine Nat.le_of_mul_le_mul_right (c := n * 18014398509481985) ?_ (Nat.mul_pos hn (by decide))
        calc V (k + 1) * 2 ^ (v + g + 1) * (n * 18014398509481985) = V (k + 1) * V (rungOf y) * (2 * 2 ^ g) * 18014398509481985 := by rw [← hB (k + 1)]; exact (Nat.mul_assoc _ _ _).symm
          _ = V (k + 1) * V (rungOf y) * 18014398509481985 * (2 * 2 ^ g) := Nat.mul_right_comm _ _ _
          _ ≤ 18014398509481984 * (V (rungOf x) * U) * (2 * 2 ^ g) := Nat.mul_le_mul_right _ hr
          _ = 18014398509481984 * 2 * (m * 2 ^ g * 2 ^ (u + 1074)) := by rw [hA, ac2]
          _ = 18014398509481984 * (2 * (m * 2 ^ g)) * 2 ^ (u + 1074) := (ac5 _ _ _ _).symm
          _ ≤ N * n * 18014398509481985 * 2 ^ (u + 1074) := Nat.mul_le_mul_right _ k1
          _ = N * 2 ^ (u + 1074) * (n * 18014398509481985) := (ac1 _ _ _ _).symm
      have := V_succ k
      have := Nat.mul_lt_mul_of_pos_right this hP
      rw [Nat.add_mul]; omega
end Go.Proofs.Ytbaioodjcjbklaa
