/-
  Plain law of the lunations near the epoch: half a month after the k-th new moon lies in lunation k, its phase between 0.4 and 0.5; half a month before lies in lunation k - 1.
-/
import Derived.Test.YtbaioodjcjbklaaBase14
import Derived.Test.YtbaioodjcjbklaaBase11
namespace Go.Proofs.Ytbaioodjcjbklaa
set_option exponentiation.threshold 2000
/-- the small unit -/
@[irreducible] def ee : Nat := 2 ^ 1026
theorem ee_eq : ee = 2 ^ 1026 := by unfold ee; rfl
theorem ee_pos : 0 < ee := by rw [ee_eq]; exact Nat.pow_pos (by decide)
theorem U_ee : U = 281474976710656 * ee := by rw [U_eq, ee_eq]
theorem V_ep : V 4694518943220530644 = 205512085597202284544 * ee := by rw [ee_eq]; decide +kernel
theorem V_sy : V 4629005339494030828 = 8312121811901932 * ee := by rw [ee_eq]; decide +kernel
theorem V_14 : V 4624070917402656768 = 3940649673949184 * ee := by rw [ee_eq]; decide +kernel
theorem V_115 : V 4601764025498337280 = 126443837194240 * ee := by rw [ee_eq]; decide +kernel
theorem V_125 : V 4602467712940113920 = 137438953472000 * ee := by rw [ee_eq]; decide +kernel
theorem pow_a : 2 ^ 1041 = 32768 * ee := by rw [ee_eq]
theorem pow_b : 2 ^ 1042 = 65536 * ee := by rw [ee_eq]
theorem pow_c : 2 ^ 1066 = 1099511627776 * ee := by rw [ee_eq]
/-- the error of a rounded sum -/
theorem Near.err_sval {E : Int} {z : Bool} {d j : Nat} (h : Near E z d) (hf : rungOf d < 9218868437227405312) (hj : E.natAbs < 9007199254740992 * 2 ^ j) : 2 * sval d ≤ 2 * E + (2 ^ j : Nat) ∧ 2 * E ≤ 2 * sval d + (2 ^ j : Nat) := by
  obtain ⟨a, b⟩ := h.err j hf hj
  have n := h.neg
  rw [sval_eq, n]
  generalize 2 ^ j = J at *
  by_cases h0 : E = 0
  · subst h0
    rw [if_pos rfl]
    have hv : V (rungOf d) = 0 := by
      have := h.le_V (r := 0) (by rw [V_zero]; decide)
      rw [show rungOf d = 0 by omega, V_zero]
    rw [hv]
    unfold dsign; split <;> simp
  · rw [if_neg h0]
    unfold dsign
    by_cases h1 : E < 0
    · rw [decide_eq_true h1, if_pos rfl]; omega
    · rw [decide_eq_false h1, if_neg (by decide)]; omega
theorem Near.fin {E : Int} {z : Bool} {d : Nat} (h : Near E z d) (hE : E.natAbs ≤ 4611686018427387904 * U) : rungOf d < 9218868437227405312 := by
  have := h.le_V (r := 4886405595696988160) (by rw [V_62]; exact hE)
  omega
theorem ac6 (a b e c : Nat) : a * (b * e) * (c * e) = c * (a * e) * (b * e) := by simp only [Nat.mul_comm, Nat.mul_left_comm]
/-- the new moon of lunation k -/
theorem nm_near {k : Int} (h1 : -32768 ≤ k) (h2 : k ≤ 32767) : rungOf (nm k) < 9218868437227405312 ∧ nm k < 18446744073709551616 ∧ 2 * (sval (nm k) - (205512085597202284544 * (ee : Int) + 8312121811901932 * (k * ee))) ≤ 98304 * ee ∧ -(98304 * (ee : Int)) ≤ 2 * (sval (nm k) - (205512085597202284544 * (ee : Int) + 8312121811901932 * (k * ee))) := by
  have he := ee_pos
  obtain ⟨r, hr⟩ := V_of 1074 k.natAbs (by omega)
  rw [← U_eq] at hr
  have hrb : r < 9218868437227405312 := by
    have h3 : V r < V 4886405595696988160 := by
      rw [hr, V_62]
      exact Nat.mul_lt_mul_of_pos_right (by omega) U_pos
    have := V_lt_iff.1 h3
    omega
  have hf := of_int (n := k) hrb hr
  obtain ⟨p1, p2, p3⟩ := word_parts (s := decide (k < 0)) (show r < 9223372036854775808 by omega)
  obtain ⟨g, e1, hg, gl, gs, l1, _, l3⟩ := mul_some (x := floatOfInt .f64 k) (y := 4629005339494030828) (by rw [hf, p2]; exact hrb) (by decide)
  rw [hf, p2, show rungOf 4629005339494030828 = 4629005339494030828 by decide, hr, V_sy, U_ee] at l1 l3
  rw [hf, p1, show isNeg 4629005339494030828 = false by decide, Bool.xor_false] at gs
  rw [ac6] at l1 l3
  have hW : 0 < 281474976710656 * ee := by omega
  have ht : k.natAbs * ee ≤ 32768 * ee := Nat.mul_le_mul_right _ (by omega)
  have htau : (k * (ee : Int)).natAbs = k.natAbs * ee := by rw [Int.natAbs_mul, Int.natAbs_natCast]
  have hsign : (k < 0 → k * (ee : Int) < 0) ∧ (0 ≤ k → 0 ≤ k * (ee : Int)) := ⟨fun h => Int.mul_neg_of_neg_of_pos h (by omega), fun h => Int.mul_nonneg h (by omega)⟩
  have gfin : rungOf g < 9218868437227405312 := by
    have : rungOf g ≤ 4886405595696988160 := by
      apply l1
      have hs := V_succ 4886405595696988160
      rw [← Nat.mul_assoc]
      refine Nat.mul_lt_mul_of_pos_right ?_ hW
      rw [V_62, U_ee] at hs ⊢
      generalize k.natAbs * ee = t at *
      omega
    omega
  have l3 := l3 1041 gfin (by
    rw [← Nat.mul_assoc 9007199254740992]
    refine Nat.mul_lt_mul_of_pos_right ?_ hW
    rw [pow_a]
    generalize k.natAbs * ee = t at *
    omega)
  rw [← Nat.mul_assoc, ← Nat.mul_assoc 2, ← Nat.add_mul, ← Nat.add_mul, pow_a] at l3
  have l4 := Nat.le_of_mul_le_mul_right l3.1 hW
  have l5 := Nat.le_of_mul_le_mul_right l3.2 hW
  -- the sum with the epoch
  obtain ⟨x, e2, hx⟩ := add_near (x := 4694518943220530644) (y := g) (by decide) gfin
  have hnm : nm k = x := by unfold nm; rw [e1, Option.bind_some, e2]; rfl
  rw [hnm]
  rw [show sval 4694518943220530644 = ((V 4694518943220530644 : Nat) : Int) from sval_pos (by omega), V_ep, sval_eq g, gs] at hx
  have hd : 2 * dsign (decide (k < 0)) (V (rungOf g)) ≤ 2 * (8312121811901932 * (k * ee)) + 32768 * ee ∧ 2 * (8312121811901932 * (k * (ee : Int))) ≤ 2 * dsign (decide (k < 0)) (V (rungOf g)) + 32768 * ee := by
    rw [← htau] at l4 l5
    unfold dsign
    generalize k * (ee : Int) = t at *
    by_cases hk : k < 0
    · have := hsign.1 hk
      rw [decide_eq_true hk, if_pos rfl]; omega
    · have := hsign.2 (by omega)
      rw [decide_eq_false hk, if_neg (by decide)]; omega
  have htb : -(32768 * (ee : Int)) ≤ k * ee ∧ k * (ee : Int) ≤ 32768 * ee := by
    rw [← htau] at ht
    generalize k * (ee : Int) = t at *
    omega
  generalize dsign (decide (k < 0)) (V (rungOf g)) = D at *
  generalize k * (ee : Int) = t at *
  have xfin := hx.fin (by rw [U_ee]; omega)
  obtain ⟨b1, b2⟩ := hx.err_sval (j := 1042) xfin (by rw [pow_b]; omega)
  rw [pow_b] at b1 b2
  exact ⟨xfin, hx.lt, by omega, by omega⟩
/-- half a month after, and before, the new moon: the day less the epoch -/
theorem day_near {k : Int} (h1 : -32768 ≤ k) (h2 : k ≤ 32767) : ∃ u v du dv, Ieee.double.add (nm k) 4624070917402656768 = some u ∧ Ieee.double.sub (nm k) 4624070917402656768 = some v ∧ u < 18446744073709551616 ∧ v < 18446744073709551616 ∧ rungOf u < 9218868437227405312 ∧ rungOf v < 9218868437227405312 ∧
    Ieee.double.sub u 4694518943220530644 = some du ∧ Ieee.double.sub v 4694518943220530644 = some dv ∧ rungOf du < 9218868437227405312 ∧ rungOf dv < 9218868437227405312 ∧ du < 18446744073709551616 ∧ dv < 18446744073709551616 ∧
    2 * (sval du - (8312121811901932 * (k * (ee : Int)) + 3940649673949184 * ee)) ≤ 229376 * ee ∧ -(229376 * (ee : Int)) ≤ 2 * (sval du - (8312121811901932 * (k * (ee : Int)) + 3940649673949184 * ee)) ∧
    2 * (sval dv - (8312121811901932 * (k * (ee : Int)) - 3940649673949184 * ee)) ≤ 229376 * ee ∧ -(229376 * (ee : Int)) ≤ 2 * (sval dv - (8312121811901932 * (k * (ee : Int)) - 3940649673949184 * ee)) := by
  have he := ee_pos
  obtain ⟨xf, xl, b1, b2⟩ := nm_near h1 h2
  have htb : -(32768 * (ee : Int)) ≤ k * ee ∧ k * (ee : Int) ≤ 32768 * ee := by
    have c1 : -32768 * (ee : Int) ≤ k * ee := Int.mul_le_mul_of_nonneg_right h1 (by omega)
    have c2 : k * (ee : Int) ≤ 32767 * ee := Int.mul_le_mul_of_nonneg_right h2 (by omega)
    generalize k * (ee : Int) = t at *
    omega
  obtain ⟨u, e1, hu⟩ := add_near (x := nm k) (y := 4624070917402656768) xf (by decide)
  obtain ⟨v, e2, hv⟩ := sub_near (x := nm k) (y := 4624070917402656768) xf (by decide)
  rw [show sval 4624070917402656768 = ((V 4624070917402656768 : Nat) : Int) from sval_pos (by omega), V_14] at hu hv
  generalize k * (ee : Int) = t at *
  generalize sval (nm k) = X at *
  have uf := hu.fin (by rw [U_ee]; omega)
  have vf := hv.fin (by rw [U_ee]; omega)
  obtain ⟨u1, u2⟩ := hu.err_sval (j := 1042) uf (by rw [pow_b]; omega)
  obtain ⟨v1, v2⟩ := hv.err_sval (j := 1042) vf (by rw [pow_b]; omega)
  rw [pow_b] at u1 u2 v1 v2
  obtain ⟨du, e3, hdu⟩ := sub_near (x := u) (y := 4694518943220530644) uf (by decide)
  obtain ⟨dv, e4, hdv⟩ := sub_near (x := v) (y := 4694518943220530644) vf (by decide)
  rw [show sval 4694518943220530644 = ((V 4694518943220530644 : Nat) : Int) from sval_pos (by omega), V_ep] at hdu hdv
  generalize sval u = Xu at *
  generalize sval v = Xv at *
  have duf := hdu.fin (by rw [U_ee]; omega)
  have dvf := hdv.fin (by rw [U_ee]; omega)
  obtain ⟨w1, w2⟩ := hdu.err_sval (j := 1042) duf (by rw [pow_b]; omega)
  obtain ⟨z1, z2⟩ := hdv.err_sval (j := 1042) dvf (by rw [pow_b]; omega)
  rw [pow_b] at w1 w2 z1 z2
  exact ⟨u, v, du, dv, e1, e2, hu.lt, hv.lt, uf, vf, e3, e4, duf, dvf, hdu.lt, hdv.lt, by omega, by omega, by omega, by omega⟩
theorem ac8 (a p e m k : Nat) : a * (p * e) * (m * e) * k = k * (a * (m * e)) * (p * e) := by simp only [Nat.mul_comm, Nat.mul_left_comm]
theorem ac9 {w c p : Nat} (hw : w = c * p) (k v e : Nat) : k * (v * (w * e)) = k * (c * v) * (p * e) := by subst hw; simp only [Nat.mul_assoc, Nat.mul_comm, Nat.mul_left_comm]
theorem ac10 (a b k e m : Nat) : (a * k + b) * (m * e) = m * (a * (k * e) + b * e) := by
  rw [Nat.add_mul, Nat.mul_add]; simp only [Nat.mul_assoc, Nat.mul_comm, Nat.mul_left_comm]
/-- the quotient by the month, between two 256ths -/
theorem q_between {d : Nat} (hd : rungOf d < 9218868437227405312) {A B : Nat} (hB : A ≤ B) (hB2 : B < 9007199254740992)
    (h1 : 18014398509481985 * (A * (8312121811901932 * ee)) ≤ 18014398509481984 * (256 * V (rungOf d))) (h2 : 18014398509481984 * (256 * V (rungOf d)) ≤ 18014398509481983 * (B * (8312121811901932 * ee))) :
    ∃ q, Ieee.double.div d 4629005339494030828 = some q ∧ q < 18446744073709551616 ∧ isNeg q = isNeg d ∧ A * (1099511627776 * ee) ≤ V (rungOf q) ∧ V (rungOf q) ≤ B * (1099511627776 * ee) := by
  have he := ee_pos
  obtain ⟨q, e, ql, qs, l1, l2⟩ := div_bounds (x := d) (y := 4629005339494030828) hd (by decide) (by decide)
  rw [show rungOf 4629005339494030828 = 4629005339494030828 by decide, V_sy, U_ee] at l1 l2
  rw [show isNeg 4629005339494030828 = false by decide, Bool.xor_false] at qs
  have hx : ∀ A : Nat, A < 9007199254740992 → ∃ r, V r = A * (1099511627776 * ee) ∧ r ≤ 9218868437227405312 := by
    intro A hA
    obtain ⟨r, hr⟩ := V_of 1066 A (by omega)
    rw [pow_c] at hr
    refine ⟨r, hr, ?_⟩
    have h3 : V r < V 4886405595696988160 := by
      rw [hr, V_62, U_ee]
      have : A * (1099511627776 * ee) < 9007199254740992 * (1099511627776 * ee) := Nat.mul_lt_mul_of_pos_right hA (by omega)
      omega
    have := V_lt_iff.1 h3
    omega
  obtain ⟨ra, hra, hra2⟩ := hx A (by omega)
  obtain ⟨rb, hrb, hrb2⟩ := hx B hB2
  refine ⟨q, e, ql, qs, ?_, ?_⟩
  · rw [← hra]
    apply V_le
    apply l2 ra hra2
    rw [hra]
    rw [ac8, ac9 (w := 281474976710656) (c := 256) (p := 1099511627776) rfl]
    exact Nat.mul_le_mul_right (1099511627776 * ee) h1
  · rw [← hrb]
    apply V_le
    apply l1 rb
    rw [hrb]
    rw [ac8, ac9 (w := 281474976710656) (c := 256) (p := 1099511627776) rfl]
    exact Nat.mul_le_mul_right (1099511627776 * ee) h2
/-- the quotient's size, from the day's -/
theorem q_size {d n : Nat} (hd : rungOf d < 9218868437227405312) (hn : n ≤ 32768) {a b : Nat} (hb : a ≤ b) (hb2 : b ≤ 256)
    (h1 : 18014398509481985 * (8312121811901932 * (256 * (n * ee) + a * ee)) ≤ 18014398509481984 * (256 * V (rungOf d))) (h2 : 18014398509481984 * (256 * V (rungOf d)) ≤ 18014398509481983 * (8312121811901932 * (256 * (n * ee) + b * ee))) :
    ∃ q, Ieee.double.div d 4629005339494030828 = some q ∧ q < 18446744073709551616 ∧ isNeg q = isNeg d ∧ 281474976710656 * (n * ee) + a * (1099511627776 * ee) ≤ V (rungOf q) ∧ V (rungOf q) ≤ 281474976710656 * (n * ee) + b * (1099511627776 * ee) := by
  have e : ∀ a : Nat, (256 * n + a) * (1099511627776 * ee) = 281474976710656 * (n * ee) + a * (1099511627776 * ee) := fun a => by
    rw [Nat.add_mul, Nat.mul_comm 256 n, Nat.mul_assoc n 256, ← Nat.mul_assoc 256, Nat.mul_left_comm n]
  obtain ⟨q, r1, r2, r3, r4, r5⟩ := q_between hd (A := 256 * n + a) (B := 256 * n + b) (by omega) (by omega) (by rw [ac10]; exact h1) (by rw [ac10]; exact h2)
  rw [e] at r4 r5
  exact ⟨q, r1, r2, r3, r4, r5⟩
/-- a day's quotient lies between two 256ths of lunation k -/
theorem day_q {d : Nat} {k a : Int} (hd : rungOf d < 9218868437227405312) (hl : d < 18446744073709551616) (h1 : -32768 ≤ k) (h2 : k ≤ 32767) (ha : a = 1 ∨ a = -1)
    (b1 : 2 * (sval d - (8312121811901932 * (k * (ee : Int)) + a * (3940649673949184 * ee))) ≤ 229376 * ee) (b2 : -(229376 * (ee : Int)) ≤ 2 * (sval d - (8312121811901932 * (k * (ee : Int)) + a * (3940649673949184 * ee)))) :
    ∃ q, Ieee.double.div d 4629005339494030828 = some q ∧ q < 18446744073709551616 ∧ rungOf q < 4845873199050653696 ∧ ∃ s, sval q - 281474976710656 * (k * ee) = s ∧ (a = 1 → 126443837194240 * (ee : Int) ≤ s ∧ s ≤ 137438953472000 * ee) ∧ (a = -1 → -(137438953472000 * (ee : Int)) ≤ s ∧ s ≤ -(126443837194240 * (ee : Int))) := by
  have he := ee_pos
  have hsv := sval_eq d
  -- the four cases, each by the size of the quotient
  have core : ∀ (n a b : Nat) (sg : Bool), n ≤ 32768 → a ≤ b → b ≤ 256 → isNeg d = sg →
      18014398509481985 * (8312121811901932 * (256 * (n * ee) + a * ee)) ≤ 18014398509481984 * (256 * V (rungOf d)) → 18014398509481984 * (256 * V (rungOf d)) ≤ 18014398509481983 * (8312121811901932 * (256 * (n * ee) + b * ee)) →
      ∃ q, Ieee.double.div d 4629005339494030828 = some q ∧ q < 18446744073709551616 ∧ rungOf q < 4845873199050653696 ∧ ∃ v : Nat, sval q = dsign sg v ∧ 281474976710656 * (n * ee) + a * (1099511627776 * ee) ≤ v ∧ v ≤ 281474976710656 * (n * ee) + b * (1099511627776 * ee) := by
    intro n a b sg hn hab hb2 hsg g1 g2
    obtain ⟨q, r1, r2, r3, r4, r5⟩ := q_size hd hn hab hb2 g1 g2
    refine ⟨q, r1, r2, ?_, V (rungOf q), by rw [sval_eq, r3, hsg], r4, r5⟩
    apply V_lt_iff.1
    rw [V_53, U_ee]
    have c1 : n * ee ≤ 32768 * ee := Nat.mul_le_mul_right _ hn
    have c2 : b * (1099511627776 * ee) ≤ 256 * (1099511627776 * ee) := Nat.mul_le_mul_right _ hb2
    generalize b * (1099511627776 * ee) = z at *
    generalize n * ee = t at *
    omega
  have hpos : 0 < sval d → isNeg d = false ∧ (V (rungOf d) : Int) = sval d := fun h => by
    rw [hsv] at h ⊢
    unfold dsign at h ⊢
    rcases hh : isNeg d with _ | _
    · exact ⟨rfl, rfl⟩
    · rw [hh, if_pos rfl] at h; omega
  have hneg : sval d < 0 → isNeg d = true ∧ (V (rungOf d) : Int) = -sval d := fun h => by
    rw [hsv] at h ⊢
    unfold dsign at h ⊢
    rcases hh : isNeg d with _ | _
    · rw [hh, if_neg (by decide)] at h; omega
    · exact ⟨rfl, by simp⟩
  clear hsv
  generalize sval d = S at *
  rcases ha with rfl | rfl
  · by_cases hk : 0 ≤ k
    · obtain ⟨n, rfl⟩ := Int.eq_ofNat_of_zero_le hk
      have ht : n * ee ≤ 32767 * ee := Nat.mul_le_mul_right _ (by omega)
      rw [← Int.natCast_mul] at b1 b2 ⊢
      have core := core n 115 125 false (by omega) (by decide) (by decide)
      generalize n * ee = t at *
      obtain ⟨s1, s2⟩ := hpos (by omega)
      generalize V (rungOf d) = v at *
      obtain ⟨q, r1, r2, r3, z, r4, r5, r6⟩ := core s1 (by omega) (by omega)
      refine ⟨q, r1, r2, r3, _, rfl, fun _ => ?_, fun h => by omega⟩
      rw [r4]; unfold dsign; simp only [Bool.false_eq_true, if_false]; omega
    · obtain ⟨n, hn⟩ : ∃ n : Nat, k = -(n : Int) - 1 := ⟨(-k - 1).toNat, by omega⟩
      have ht : n * ee ≤ 32767 * ee := Nat.mul_le_mul_right _ (by omega)
      have hke : k * (ee : Int) = -((n * ee : Nat) : Int) - ee := by rw [hn, Int.sub_mul, Int.neg_mul, Int.one_mul, Int.natCast_mul]
      rw [hke] at b1 b2 ⊢
      have core := core n 131 141 true (by omega) (by decide) (by decide)
      generalize n * ee = t at *
      obtain ⟨s1, s2⟩ := hneg (by omega)
      generalize V (rungOf d) = v at *
      obtain ⟨q, r1, r2, r3, z, r4, r5, r6⟩ := core s1 (by omega) (by omega)
      refine ⟨q, r1, r2, r3, _, rfl, fun _ => ?_, fun h => by omega⟩
      rw [r4]; unfold dsign; simp only [if_true]; omega
  · by_cases hk : 1 ≤ k
    · obtain ⟨n, hn⟩ : ∃ n : Nat, k = (n : Int) + 1 := ⟨(k - 1).toNat, by omega⟩
      have ht : n * ee ≤ 32767 * ee := Nat.mul_le_mul_right _ (by omega)
      have hke : k * (ee : Int) = ((n * ee : Nat) : Int) + ee := by rw [hn, Int.add_mul, Int.one_mul, Int.natCast_mul]
      rw [hke] at b1 b2 ⊢
      have core := core n 131 141 false (by omega) (by decide) (by decide)
      generalize n * ee = t at *
      obtain ⟨s1, s2⟩ := hpos (by omega)
      generalize V (rungOf d) = v at *
      obtain ⟨q, r1, r2, r3, z, r4, r5, r6⟩ := core s1 (by omega) (by omega)
      refine ⟨q, r1, r2, r3, _, rfl, fun h => by omega, fun _ => ?_⟩
      rw [r4]; unfold dsign; simp only [Bool.false_eq_true, if_false]; omega
    · obtain ⟨n, hn⟩ : ∃ n : Nat, k = -(n : Int) := ⟨(-k).toNat, by omega⟩
      have ht : n * ee ≤ 32768 * ee := Nat.mul_le_mul_right _ (by omega)
      have hke : k * (ee : Int) = -((n * ee : Nat) : Int) := by rw [hn, Int.neg_mul, Int.natCast_mul]
      rw [hke] at b1 b2 ⊢
      have core := core n 115 125 true (by omega) (by decide) (by decide)
      generalize n * ee = t at *
      obtain ⟨s1, s2⟩ := hneg (by omega)
      generalize V (rungOf d) = v at *
      obtain ⟨q, r1, r2, r3, z, r4, r5, r6⟩ := core s1 (by omega) (by omega)
      refine ⟨q, r1, r2, r3, _, rfl, fun h => by omega, fun _ => ?_⟩
      rw [r4]; unfold dsign; simp only [if_true]; omega
/-- the floor of a number between a whole one and the next -/
theorem iway_down_of {q : Nat} (hq : rungOf q < 9218868437227405312) {k : Int} (h1 : 281474976710656 * (k * (ee : Int)) ≤ sval q) (h2 : sval q < 281474976710656 * (k * (ee : Int)) + 281474976710656 * ee) : iway .down q = k := by
  obtain ⟨g1, g2⟩ := floor_gap hq
  rw [sval_down hq, U_ee] at g1 g2
  rw [Int.natCast_mul] at g1 g2
  have he := ee_pos
  generalize iway .down q = n at *
  have e1 : n * (((281474976710656 : Nat) : Int) * (ee : Int)) = 281474976710656 * (n * (ee : Int)) := by rw [Int.mul_left_comm]; rfl
  rw [e1] at g1 g2
  have key : ∀ a b : Int, a * (ee : Int) < b * ee → a < b := fun a b h => Int.lt_of_mul_lt_mul_right h (by omega)
  have c1 : (n + 1) * (ee : Int) = n * ee + ee := by rw [Int.add_mul, Int.one_mul]
  have c2 : (k + 1) * (ee : Int) = k * ee + ee := by rw [Int.add_mul, Int.one_mul]
  have k1 := key k (n + 1) (by rw [c1]; omega)
  have k2 := key n (k + 1) (by rw [c2]; omega)
  omega
theorem reg_of {u q : Nat} (h1 : rungOf u < 9218868437227405312) (h2 : qq u = q) (h3 : rungOf q < 9218868437227405312) : reg u = true := by
  unfold reg nanB infB
  rw [h2]
  simp; omega
/-- THE LAW -/
theorem lun_law {k : Int} (h1 : -32768 ≤ k) (h2 : k ≤ 32767) : ∃ u v, Ieee.double.add (nm k) 4624070917402656768 = some u ∧ Ieee.double.sub (nm k) 4624070917402656768 = some v ∧ lunB u = true ∧ lunB v = true ∧ iway .down (qq u) = k ∧ iway .down (qq v) = k - 1 ∧
    FloatKind.f64.format.order (ph u) 4600877379321698714 = some Ordering.gt ∧ FloatKind.f64.format.order (ph u) 4602678819172646912 = some Ordering.lt := by
  have he := ee_pos
  obtain ⟨u, v, du, dv, e1, e2, ul, vl, uf, vf, e3, e4, duf, dvf, dul, dvl, b1, b2, b3, b4⟩ := day_near h1 h2
  obtain ⟨q, r1, r2, r3, s, r4, r5, _⟩ := day_q (a := 1) duf dul h1 h2 (Or.inl rfl) (by rw [Int.one_mul]; exact b1) (by rw [Int.one_mul]; exact b2)
  obtain ⟨p, t1, t2, t3, s', t4, _, t5⟩ := day_q (a := -1) dvf dvl h1 h2 (Or.inr rfl) (by rw [Int.neg_mul, Int.one_mul, ← Int.sub_eq_add_neg]; exact b3) (by rw [Int.neg_mul, Int.one_mul, ← Int.sub_eq_add_neg]; exact b4)
  obtain ⟨r5, r6⟩ := r5 rfl
  obtain ⟨t5, t6⟩ := t5 rfl
  have hq : qq u = q := by unfold qq; rw [e3, Option.bind_some, r1]; rfl
  have hp : qq v = p := by unfold qq; rw [e4, Option.bind_some, t1]; rfl
  have ru := reg_of uf hq (by omega)
  have rv := reg_of vf hp (by omega)
  have c3 : (k - 1) * (ee : Int) = k * ee - ee := by rw [Int.sub_mul, Int.one_mul]
  have iu : iway .down (qq u) = k := by rw [hq]; exact iway_down_of (by omega) (by omega) (by omega)
  have iv : iway .down (qq v) = k - 1 := by rw [hp]; exact iway_down_of (by omega) (by rw [c3]; omega) (by rw [c3]; omega)
  refine ⟨u, v, e1, e2, ?_, ?_, iu, iv, ?_⟩
  · unfold lunB; rw [ru, hq, decide_eq_true r3]; rfl
  · unfold lunB; rw [rv, hp, decide_eq_true t3]; rfl
  · obtain ⟨_, hd⟩ := fd_spec ru
    have hfd := fd_facts ru
    rw [sval_down (x := qq u) (by rw [hq]; omega), iu, hq, U_ee] at hd
    have hE : sval q - k * ((281474976710656 * ee : Nat) : Int) = s := by
      rw [Int.natCast_mul, Int.mul_left_comm]; exact r4
    rw [hE] at hd
    have g1 : 4601764025498337280 ≤ rungOf (fd u) := hd.ge_V (by omega) (by rw [V_115]; omega)
    have g2 : rungOf (fd u) ≤ 4602467712940113920 := hd.le_V (by rw [V_125]; omega)
    obtain ⟨_, g3⟩ := rung_small (x := fd u) (by omega)
    rw [g3] at g1 g2
    have hph : ph u = fd u := by
      unfold ph cutF
      rw [if_pos ru, order_small (by omega) (by omega), order_small (by omega) (by omega), Nat.compare_eq_lt.2 (by omega), Nat.compare_eq_gt.2 (by omega)]
      rfl
    rw [hph, order_small (by omega) (by omega), order_small (by omega) (by omega), Nat.compare_eq_gt.2 (by omega), Nat.compare_eq_lt.2 (by omega)]
    exact ⟨rfl, rfl⟩
end Go.Proofs.Ytbaioodjcjbklaa
