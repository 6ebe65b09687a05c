/-
  Contracts of the reference's product test, quotient and remainder and of the law's helper 'result', for all 64-bit integers. No further condition.
-/
import Derived.Test.YtoankoongjiegaaBase
namespace Go.Proofs.Ytoankoongjiegaa
open Go.RowKit
set_option linter.unusedVariables false
theorem mm_pp {a b : Int} (h1 : 0 < a) (h2 : 0 < b) : decide (a ≤ 9223372036854775807 / b) = in64 (a * b) := by
  rw [Bool.eq_iff_iff, in64_iff, decide_eq_true_eq, Int.le_ediv_iff_mul_le h2]
  have := Int.mul_pos h1 h2
  omega
theorem tdiv_pos_le {m b : Int} (h1 : 0 ≤ m) (h2 : 0 < b) : m.tdiv b = m / b := Int.tdiv_eq_ediv_of_nonneg h1
theorem mm_pn {a b : Int} (h1 : 0 < a) (h2 : b < 0) : decide (wrap64 (-Int.tdiv 9223372036854775808 a) ≤ b) = in64 (a * b) := by
  have e := tdiv_pos_le (m := 9223372036854775808) (by omega) h1
  have hd : 9223372036854775808 / a ≤ 9223372036854775808 := Int.ediv_le_self _ (by omega)
  have hn : 0 ≤ 9223372036854775808 / a := Int.ediv_nonneg (by omega) (by omega)
  rw [e, wrap_in (by unfold In64; omega), Bool.eq_iff_iff, in64_iff, decide_eq_true_eq]
  have k : (-b ≤ 9223372036854775808 / a) ↔ (-b) * a ≤ 9223372036854775808 := Int.le_ediv_iff_mul_le h1
  have p : 0 < (-b) * a := Int.mul_pos (by omega) h1
  have q : (-b) * a = - (a * b) := by rw [Int.neg_mul, Int.mul_comm]
  rw [q] at k p
  omega
theorem mm_np {a b : Int} (h1 : a < 0) (h2 : 0 < b) : decide (wrap64 (-Int.tdiv 9223372036854775808 b) ≤ a) = in64 (a * b) := by
  rw [Int.mul_comm]; exact mm_pn h2 h1
theorem mm_nn {a b : Int} (h1 : a < 0) (h2 : b < 0) : decide (wrap64 (Int.tdiv 9223372036854775807 b) ≤ a) = in64 (a * b) := by
  have e : Int.tdiv 9223372036854775807 b = - (9223372036854775807 / (-b)) := by
    rw [← tdiv_pos_le (by omega) (by omega), Int.tdiv_neg, Int.neg_neg]
  have hd : 9223372036854775807 / (-b) ≤ 9223372036854775807 := Int.ediv_le_self _ (by omega)
  have hn : 0 ≤ 9223372036854775807 / (-b) := Int.ediv_nonneg (by omega) (by omega)
  rw [e, wrap_in (by unfold In64; omega), Bool.eq_iff_iff, in64_iff, decide_eq_true_eq]
  have k : (-a ≤ 9223372036854775807 / (-b)) ↔ (-a) * (-b) ≤ 9223372036854775807 := Int.le_ediv_iff_mul_le (by omega)
  have p : 0 < (-a) * (-b) := Int.mul_pos (by omega) (by omega)
  rw [Int.neg_mul_neg] at k p
  omega
set_option maxHeartbeats 400000 in
theorem muls_c (a b : Int) (w : World) (ha1 : -9223372036854775808 ≤ a) (ha2 : a ≤ 9223372036854775807) (hb1 : -9223372036854775808 ≤ b) (hb2 : b ≤ 9223372036854775807) : Calls Try.prog 20 #[.int .i64 a, .int .i64 b] w fun e w' => e = .returned (.bool (in64 (a * b))) ∧ w = w' := by
  by_cases h1 : a = 0
  · subst h1
    go_enter Try.func20, Try.ntmps20
    go_wp2
    go_ret
    exact ⟨ret_bool (by simp [in64]), rfl⟩
  have h1' : (a == 0) = false := by simpa using h1
  by_cases h2 : b = 0
  · subst h2
    go_enter Try.func20, Try.ntmps20
    go_wp2
    go_ret
    exact ⟨ret_bool (by simp [in64]), rfl⟩
  have h2' : (b == 0) = false := by simpa using h2
  by_cases h3 : a = -1
  · subst h3
    go_enter Try.func20, Try.ntmps20
    go_wp2
    all_goals (go_ret; exact ⟨ret_bool (by rw [Bool.eq_iff_iff]; simp [in64]; omega), rfl⟩)
  have h3' : (a == -1) = false := by simpa using h3
  by_cases h4 : b = -1
  · subst h4
    go_enter Try.func20, Try.ntmps20
    go_wp2
    all_goals (go_ret; exact ⟨ret_bool (by rw [Bool.eq_iff_iff]; simp [in64]; omega), rfl⟩)
  have h4' : (b == -1) = false := by simpa using h4
  by_cases h5 : 0 < a
  · by_cases h6 : 0 < b
    · have g1 : decide (a < 0) = false := by simp; omega
      have g2 : decide (b < 0) = false := by simp; omega
      have F := Lib.hid (mm_pp h5 h6)
      go_enter Try.func20, Try.ntmps20
      go_wp2
      go_ret
      exact ⟨ret_bool F.out, rfl⟩
    · have g1 : decide (a < 0) = false := by simp; omega
      have g2 : decide (b < 0) = true := by simp; omega
      have F := Lib.hid (mm_pn (a := a) (b := b) h5 (by omega))
      go_enter Try.func20, Try.ntmps20
      go_wp2
      go_ret
      exact ⟨ret_bool F.out, rfl⟩
  · by_cases h6 : 0 < b
    · have g1 : decide (a < 0) = true := by simp; omega
      have g2 : decide (b < 0) = false := by simp; omega
      have F := Lib.hid (mm_np (a := a) (b := b) (by omega) h6)
      go_enter Try.func20, Try.ntmps20
      go_wp2
      go_ret
      exact ⟨ret_bool F.out, rfl⟩
    · have g1 : decide (a < 0) = true := by simp; omega
      have g2 : decide (b < 0) = true := by simp; omega
      have F := Lib.hid (mm_nn (a := a) (b := b) (by omega) (by omega))
      go_enter Try.func20, Try.ntmps20
      go_wp2
      go_ret
      exact ⟨ret_bool F.out, rfl⟩

def resB (n : Int) (p : Bool) (m : Int) (q : Bool) : Bool := if q = true then p && n == m else !p && n == 0
set_option maxHeartbeats 400000 in
theorem result_c (n m : Int) (p q : Bool) (w : World) : Calls Try.prog 15 #[.int .i64 n, .bool p, .int .i64 m, .bool q] w fun e w' => e = .returned (.bool (resB n p m q)) ∧ w = w' := by
  cases q <;> cases p <;> (go_enter Try.func15, Try.ntmps15; go_wp2; go_ret; exact ⟨ret_bool (by simp [resB]), rfl⟩)

theorem wrap_mod (n : Int) : ∃ k, wrap64 n = n + 18446744073709551616 * k := ⟨(wrap64 n - n) / 18446744073709551616, by unfold wrap64; omega⟩
/-- the walk's test 'q*b != a' holds exactly if there is a remainder -/
theorem back_iff {a b : Int} (ha : In64 a) (hb : In64 b) (hq : In64 (a.tdiv b)) : wrap64 (wrap64 (a.tdiv b) * b) = a ↔ a.tmod b = 0 := by
  have e := Int.mul_tdiv_add_tmod a b
  have hab : In64 (a.tdiv b * b) := by
    have n1 : (a.tdiv b * b).natAbs ≤ a.natAbs := by
      rw [Int.natAbs_mul, Int.natAbs_tdiv]; exact Nat.div_mul_le_self _ _
    have n2 : a.tdiv b * b = a - a.tmod b := by rw [Int.mul_comm]; omega
    have n3 := tmod_neg_iff (a := a) (b := b)
    have n4 : (a.tmod b).natAbs ≤ a.natAbs := by rw [Int.natAbs_tmod]; exact Nat.mod_le _ _
    unfold In64 at *
    by_cases z : a.tmod b = 0
    · omega
    · have := n3 z; omega
  rw [wrap_in hq, wrap_in hab, Int.mul_comm]
  omega
theorem rd1 {a b : Int} (ha : In64 a) (hb : In64 b) (hq : In64 (a.tdiv b)) (h : wrap64 (wrap64 (a.tdiv b) * b) = a) : wrap64 (a.tdiv b) = a.fdiv b := by
  rw [back_iff ha hb hq] at h
  rw [wrap_in hq, (fdm_zero h).1]
theorem rd2 {a b : Int} (hb0 : ¬ b = 0) (ha : In64 a) (hb : In64 b) (hq : In64 (a.tdiv b)) (h : ¬ wrap64 (wrap64 (a.tdiv b) * b) = a) (h2 : (wrap64 (wrap64 (a.tdiv b) * b) != a) = true ∧ (!decide (a < 0) == decide (b < 0)) = true) : wrap64 (wrap64 (a.tdiv b) - 1) = a.fdiv b := by
  rw [back_iff ha hb hq] at h
  rw [wrap_in hq, wrap_in (tdiv_adj_in ha hb0 h)]
  have hs : ¬ (a.tmod b < 0 ↔ b < 0) := by
    rw [tmod_neg_iff h]; have := h2.2; intro e; simp [e] at this
  rw [(fdm_adj hb0 h hs).1]
theorem rd3 {a b : Int} (hb0 : ¬ b = 0) (ha : In64 a) (hb : In64 b) (hq : In64 (a.tdiv b)) (h : ¬ wrap64 (wrap64 (a.tdiv b) * b) = a) (h2 : (wrap64 (wrap64 (a.tdiv b) * b) != a) = false ∨ (!decide (a < 0) == decide (b < 0)) = false) : wrap64 (a.tdiv b) = a.fdiv b := by
  have hs : (a < 0 ↔ b < 0) := by
    rcases h2 with h2 | h2
    · simp [h] at h2
    · simp at h2; simpa using h2
  rw [back_iff ha hb hq] at h
  rw [← tmod_neg_iff h] at hs
  rw [wrap_in hq, (fdm_same h hs).1]

theorem spl_iff {a b : Int} : spl a b = true ↔ ¬ b = 0 ∧ ¬ (a = -9223372036854775808 ∧ b = -1) := by simp [spl]; omega

set_option maxHeartbeats 400000 in
theorem rdiv_c (a b : Int) (w : World) (ha1 : -9223372036854775808 ≤ a) (ha2 : a ≤ 9223372036854775807) (hb1 : -9223372036854775808 ≤ b) (hb2 : b ≤ 9223372036854775807) (h : spl a b = true) : Calls Try.prog 13 #[.int .i64 a, .int .i64 b] w fun e w' => e = .returned (.int .i64 (a.fdiv b)) ∧ w = w' := by
  obtain ⟨hb, hm⟩ := spl_iff.1 h
  have HA := Lib.hid (show In64 a from ⟨ha1, ha2⟩)
  have HB := Lib.hid (show In64 b from ⟨hb1, hb2⟩)
  have HQ := Lib.hid (tdiv_in ⟨ha1, ha2⟩ hm)
  clear h hm
  go_enter Try.func13, Try.ntmps13
  go_wp2
  · go_ret
    exact ⟨ret_int (rd1 HA.out HB.out HQ.out ‹_›), rfl⟩
  · go_ret
    exact ⟨ret_int (rd2 hb HA.out HB.out HQ.out ‹_› ‹_›), rfl⟩
  · go_ret
    exact ⟨ret_int (rd3 hb HA.out HB.out HQ.out ‹_› ‹_›), rfl⟩

theorem rm1 {a b : Int} (hb0 : ¬ b = 0) (hb : In64 b) : wrap64 (a - wrap64 (b * a.fdiv b)) = a.fmod b := by
  have e := Int.mul_fdiv_add_fmod a b
  have f : In64 (a.fmod b) := by
    rw [Int.fmod_eq_emod]
    have p := Int.emod_nonneg a hb0
    have q := Int.emod_lt a hb0
    unfold In64 at *
    split
    · omega
    · omega
  unfold In64 at *
  generalize b * a.fdiv b = m at *
  unfold wrap64
  omega

set_option maxHeartbeats 400000 in
theorem rmod_c (a b : Int) (w : World) (ha1 : -9223372036854775808 ≤ a) (ha2 : a ≤ 9223372036854775807) (hb1 : -9223372036854775808 ≤ b) (hb2 : b ≤ 9223372036854775807) (h : spl a b = true) : Calls Try.prog 14 #[.int .i64 a, .int .i64 b] w fun e w' => e = .returned (.int .i64 (a.fmod b)) ∧ w = w' := by
  obtain ⟨hb, hm⟩ := spl_iff.1 h
  have H := Lib.hid h
  have F := Lib.hid (rm1 (a := a) hb ⟨hb1, hb2⟩)
  clear h hm
  go_enter Try.func14, Try.ntmps14
  go_wp2_with (go_at_call 13; refine (rdiv_c _ _ _ ha1 ha2 hb1 hb2 H.out).mono ?_; rintro e w' ⟨rfl, rfl⟩)
  go_ret
  exact ⟨ret_int F.out, rfl⟩
theorem fdiv_in {a b : Int} (ha : In64 a) (hb : In64 b) (h : spl a b = true) : In64 (a.fdiv b) := by
  obtain ⟨h0, hm⟩ := spl_iff.1 h
  have hq := tdiv_in ha hm
  by_cases hz : a.tmod b = 0
  · rw [(fdm_zero hz).1]; exact hq
  · by_cases hs : (a.tmod b < 0 ↔ b < 0)
    · rw [(fdm_same hz hs).1]; exact hq
    · rw [(fdm_adj h0 hz hs).1]; exact tdiv_adj_in ha h0 hz
end Go.Proofs.Ytoankoongjiegaa
