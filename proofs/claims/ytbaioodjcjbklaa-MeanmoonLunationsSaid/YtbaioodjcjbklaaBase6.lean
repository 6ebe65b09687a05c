/-
  The walk of the law MeanmoonOrder: the order of words by their keys is total, transitive, and agrees with the order of numbers.
-/
import Derived.Test.YtbaioodjcjbklaaBase5
namespace Go.Proofs.Ytbaioodjcjbklaa
open Go.RowKit
theorem toNat_bitsOf (a : Nat) : (bitsOf a).toNat = a := by rw [bitsOf_eq]; rfl
theorem bitsOf_inj {a b : Nat} : bitsOf a = bitsOf b ↔ a = b := by rw [bitsOf_eq, bitsOf_eq]; omega
theorem wf_bits {a : Int} (h : (Lit.int .u64 a).wf = true) : ∃ n : Nat, a = bitsOf n ∧ n < 18446744073709551616 := by
  have h' : 0 ≤ a ∧ a ≤ 18446744073709551615 := by
    have := h; simp [Lit.wf] at this; exact this
  exact ⟨a.toNat, by rw [bitsOf_eq]; omega, by omega⟩
theorem kkey_inj {a b : Nat} (ha : a < 18446744073709551616) (hb : b < 18446744073709551616) (h : kkey a = kkey b) : a = b := by
  unfold kkey at h; split at h <;> split at h <;> omega
theorem kkey_order {a b : Nat} (ha : a < 18446744073709551616) (hb : b < 18446744073709551616) (h : (FloatKind.f64.format.order a b == some Ordering.lt) = true) : befB a b = true := by
  rw [fmt64, beq_iff_eq] at h
  by_cases h1 : 9218868437227405312 < rungOf a
  · rw [order_nanl h1] at h; cases h
  by_cases h2 : 9218868437227405312 < rungOf b
  · rw [order_nanr h2] at h; cases h
  rw [order_nn (by omega) (by omega), Option.some.injEq, Int.compare_eq_lt] at h
  unfold befB; rw [decide_eq_true_eq]
  unfold sval at h
  rw [isNeg_iff ha, isNeg_iff hb] at h
  unfold kkey
  by_cases n1 : 9223372036854775808 ≤ a
  · rw [decide_eq_true n1, if_pos rfl] at h
    by_cases n2 : 9223372036854775808 ≤ b
    · rw [decide_eq_true n2, if_pos rfl] at h
      have : rungOf b < rungOf a := V_lt_iff.1 (by omega)
      unfold rungOf at this
      rw [if_neg (by omega), if_neg (by omega)]; omega
    · rw [if_neg (by omega), if_pos (by omega)]; omega
  · rw [decide_eq_false n1, if_neg (by decide)] at h
    by_cases n2 : 9223372036854775808 ≤ b
    · rw [decide_eq_true n2, if_pos rfl] at h
      omega
    · rw [decide_eq_false n2, if_neg (by decide)] at h
      have : rungOf a < rungOf b := V_lt_iff.1 (by omega)
      unfold rungOf at this
      rw [if_pos (by omega), if_pos (by omega)]; omega
attribute [go_sem] toNat_bitsOf
theorem order_cases (a b c : Nat) (ha : a < 18446744073709551616) (hb : b < 18446744073709551616) :
    (a = b ∧ befB a b = false ∧ befB b a = false ∧ (FloatKind.f64.format.order a b == some Ordering.lt) = false) ∨
    (bitsOf a ≠ bitsOf b ∧ befB a b = true ∧ befB b a = false ∧ befB b c = true ∧ befB a c = true) ∨
    (bitsOf a ≠ bitsOf b ∧ befB a b = true ∧ befB b a = false ∧ befB b c = false) ∨
    (bitsOf a ≠ bitsOf b ∧ befB a b = false ∧ befB b a = true ∧ (FloatKind.f64.format.order a b == some Ordering.lt) = false) := by
  have hn : befB a b = false → (FloatKind.f64.format.order a b == some Ordering.lt) = false := fun h => by
    rw [Bool.eq_false_iff]; intro h2; rw [kkey_order ha hb h2] at h; cases h
  have hi := @kkey_inj a b ha hb
  unfold befB at *
  simp only [decide_eq_true_eq, decide_eq_false_iff_not, bitsOf_inj, ne_eq] at *
  by_cases h : a = b
  · subst h; left; exact ⟨rfl, by omega, by omega, hn (by omega)⟩
  · right
    rcases Nat.lt_trichotomy (kkey a) (kkey b) with g | g | g
    · by_cases g2 : kkey b < kkey c
      · left; exact ⟨h, g, by omega, g2, by omega⟩
      · right; left; exact ⟨h, g, by omega, g2⟩
    · exact absurd (hi g) h
    · right; right; exact ⟨h, by omega, g, hn (by omega)⟩
set_option maxRecDepth 100000 in
set_option maxHeartbeats 1000000 in
theorem order_w (a b c : Nat) (w : World) (ha : a < 18446744073709551616) (hb : b < 18446744073709551616) (hc : c < 18446744073709551616) : Calls Try.prog 3 #[.int .u64 (bitsOf a), .int .u64 (bitsOf b), .int .u64 (bitsOf c)] w fun e w' => e = .returned (.bool true) ∧ Below w.heap.size w w' := by
  have HA := Lib.hid ha
  have HB := Lib.hid hb
  have HC := Lib.hid hc
  rcases order_cases a b c ha hb with ⟨rfl, h2, h3, h4⟩ | ⟨h1, h2, h3, h4, h5⟩ | ⟨h1, h2, h3, h4⟩ | ⟨h1, h2, h3, h4⟩
  all_goals clear ha hb hc
  all_goals have H2 := Lib.hid h2
  all_goals have H3 := Lib.hid h3
  all_goals have H4 := Lib.hid h4
  all_goals try have H5 := Lib.hid h5
  all_goals clear h2 h3
  all_goals
    go_enter Try.func3, Try.ntmps3
    go_wp2_with first
      | (go_at_call 9; refine (awake_c _).mono ?_; rintro e w1 ⟨rfl, hB⟩)
      | (go_at_call 11; refine (before_c _ _ _ (by assumption) (by assumption)).mono ?_; rintro e w1 ⟨rfl, rfl⟩; first | rw [H2.out] | rw [H3.out] | rw [H4.out] | rw [H5.out])
  all_goals first
    | (go_ret; exact ⟨rfl, hB⟩)
    | trace_state
end Go.Proofs.Ytbaioodjcjbklaa
