/-
  Contracts of weekday's and its reference's Of, OnOrAfter, OnOrBefore and Nth, for all 64-bit integers. No further condition.
-/
import Derived.Test.YtckkllbnmnpafaaDoorBase
import Derived.LoopTactic
namespace Go.Proofs.YtckkllbnmnpafaaDoor
open Go.RowKit
set_option linter.unusedVariables false

theorem chain {w w1 w2 : World} (h : Below w.heap.size w w1) (g : Below w1.heap.size w1 w2) : Below w.heap.size w w2 := h.trans (g.mono h.size)

theorem vMod7 (n : Int) : vMod n 7 = n % 7 := by
  have h : spl n 7 = true := by simp [spl]
  unfold vMod; rw [if_pos h, Int.fmod_eq_emod_of_nonneg _ (by omega)]
theorem fmod7 (n : Int) : n.fmod 7 = n % 7 := Int.fmod_eq_emod_of_nonneg _ (by omega)
theorem spl7 (n : Int) : spl n 7 = true := by simp [spl]

set_option maxHeartbeats 400000 in
theorem of_c (n : Int) (w : World) (h1 : -9223372036854775808 ≤ n) (h2 : n ≤ 9223372036854775807) : Calls Tryd.prog 15 #[.int .i64 n] w fun e w' => e = .returned (.int .i64 (n % 7)) ∧ Below w.heap.size w w' := by
  go_enter Tryd.func15, Tryd.ntmps15
  go_wp2_with (go_at_call 23; refine (mod_c _ _ _ h1 h2 (by omega) (by omega)).mono ?_; rintro e w' ⟨rfl, hw⟩; rw [vMod7])
  go_ret
  exact ⟨rfl, hw⟩

set_option maxHeartbeats 400000 in
theorem rof_c (n : Int) (w : World) (h1 : -9223372036854775808 ≤ n) (h2 : n ≤ 9223372036854775807) : Calls Tryd.prog 16 #[.int .i64 n] w fun e w' => e = .returned (.int .i64 (n % 7)) ∧ w = w' := by
  go_enter Tryd.func16, Tryd.ntmps16
  go_wp2_with (go_at_call 24; refine (rmod_c _ _ _ h1 h2 (by omega) (by omega) (spl7 n)).mono ?_; rintro e w' ⟨rfl, rfl⟩; rw [fmod7])
  go_ret
  exact ⟨rfl, rfl⟩

def vErr (n k : Int) : Int := if k < 0 ∨ 6 < k then 3 else if n < -1099511627776 ∨ 1099511627776 < n then 1 else 0
theorem vErr_zero {n k : Int} (h : vErr n k = 0) : 0 ≤ k ∧ k ≤ 6 ∧ -1099511627776 ≤ n ∧ n ≤ 1099511627776 := by
  unfold vErr at h; split at h
  · omega
  · split at h <;> omega

set_option maxHeartbeats 400000 in
theorem check_c (n k : Int) (w : World) : Calls Tryd.prog 21 #[.int .i64 n, .int .i64 k] w fun e w' => e = .returned (.int .i64 (vErr n k)) ∧ w = w' := by
  go_enter Tryd.func21, Tryd.ntmps21
  go_wp2
  all_goals (go_ret; exact ⟨ret_int (by unfold vErr; (repeat split) <;> omega), rfl⟩)

set_option maxHeartbeats 400000 in
theorem fails_c (n k : Int) (w : World) : Calls Tryd.prog 22 #[.int .i64 n, .int .i64 k] w fun e w' => e = .returned (.int .i64 (vErr n k)) ∧ w = w' := by
  go_enter Tryd.func22, Tryd.ntmps22
  go_wp2
  all_goals (go_ret; exact ⟨ret_int (by unfold vErr; (repeat split) <;> omega), rfl⟩)

def vAfter (n k : Int) : Int := if vErr n k = 0 then n + (k - n) % 7 else 0
def vBefore (n k : Int) : Int := if vErr n k = 0 then n - (n - k) % 7 else 0
theorem ret_ii {k : IntKind} {a b c d : Int} (h : a = b) (g : c = d) : Ending.returned (.tuple #[.int k a, .int k c]) = .returned (.tuple #[.int k b, .int k d]) := by rw [h, g]

set_option maxHeartbeats 400000 in
theorem after_c (n k : Int) (w : World) : Calls Tryd.prog 9 #[.int .i64 n, .int .i64 k] w fun e w' => e = .returned (.tuple #[.int .i64 (vAfter n k), .int .i64 (vErr n k)]) ∧ Below w.heap.size w w' := by
  have HB := Below.refl w.heap.size w
  by_cases h : vErr n k = 0
  · obtain ⟨h1, h2, h3, h4⟩ := vErr_zero h
    have H := Lib.hid h
    have h5 : 0 ≤ n % 7 := by omega
    have h6 : n % 7 ≤ 6 := by omega
    have h7 : 0 ≤ (k - n) % 7 := by omega
    have h8 : (k - n) % 7 ≤ 6 := by omega
    clear h
    go_enter Tryd.func9, Tryd.ntmps9
    go_wp2_with (first | (go_at_call 21; refine (check_c _ _ _).mono ?_; rintro e w' ⟨rfl, rfl⟩; rw [H.out]) | (go_at_call 15; refine (of_c _ _ (by omega) (by omega)).mono ?_; rintro e w' ⟨rfl, hw⟩; replace HB := chain HB hw; clear hw))
    go_ret2
    exact ⟨ret_ii (by unfold vAfter; rw [if_pos H.out]) H.out.symm, HB⟩
  · have H := Lib.hid h
    have h0 : (vErr n k != 0) = true := by simpa using h
    generalize hv : vErr n k = v at *
    have HV := Lib.hid hv
    clear h hv
    go_enter Tryd.func9, Tryd.ntmps9
    go_wp2_with (first | (go_at_call 21; refine (check_c _ _ _).mono ?_; rintro e w' ⟨rfl, rfl⟩; rw [HV.out]))
    go_ret2
    exact ⟨ret_ii (by unfold vAfter; rw [HV.out, if_neg H.out]) rfl, HB⟩

set_option maxHeartbeats 400000 in
theorem before_c (n k : Int) (w : World) : Calls Tryd.prog 11 #[.int .i64 n, .int .i64 k] w fun e w' => e = .returned (.tuple #[.int .i64 (vBefore n k), .int .i64 (vErr n k)]) ∧ Below w.heap.size w w' := by
  have HB := Below.refl w.heap.size w
  by_cases h : vErr n k = 0
  · obtain ⟨h1, h2, h3, h4⟩ := vErr_zero h
    have H := Lib.hid h
    have h5 : 0 ≤ n % 7 := by omega
    have h6 : n % 7 ≤ 6 := by omega
    have h7 : 0 ≤ (n - k) % 7 := by omega
    have h8 : (n - k) % 7 ≤ 6 := by omega
    clear h
    go_enter Tryd.func11, Tryd.ntmps11
    go_wp2_with (first | (go_at_call 21; refine (check_c _ _ _).mono ?_; rintro e w' ⟨rfl, rfl⟩; rw [H.out]) | (go_at_call 15; refine (of_c _ _ (by omega) (by omega)).mono ?_; rintro e w' ⟨rfl, hw⟩; replace HB := chain HB hw; clear hw))
    go_ret2
    exact ⟨ret_ii (by unfold vBefore; rw [if_pos H.out]) H.out.symm, HB⟩
  · have H := Lib.hid h
    have h0 : (vErr n k != 0) = true := by simpa using h
    generalize hv : vErr n k = v at *
    have HV := Lib.hid hv
    clear h hv
    go_enter Tryd.func11, Tryd.ntmps11
    go_wp2_with (first | (go_at_call 21; refine (check_c _ _ _).mono ?_; rintro e w' ⟨rfl, rfl⟩; rw [HV.out]))
    go_ret2
    exact ⟨ret_ii (by unfold vBefore; rw [HV.out, if_neg H.out]) rfl, HB⟩

set_option maxHeartbeats 400000 in
theorem rafter_c (n k : Int) (w : World) : Calls Tryd.prog 10 #[.int .i64 n, .int .i64 k] w fun e w' => e = .returned (.tuple #[.int .i64 (vAfter n k), .int .i64 (vErr n k)]) ∧ w = w' := by
  by_cases h : vErr n k = 0
  · obtain ⟨h1, h2, h3, h4⟩ := vErr_zero h
    have H := Lib.hid h
    have HR := Lib.hid (show vAfter n k = n + (k - n) % 7 by unfold vAfter; rw [if_pos h])
    clear h
    go_enter Tryd.func10, Tryd.ntmps10
    go_wp2_with (go_at_call 22; refine (fails_c _ _ _).mono ?_; rintro e w' ⟨rfl, rfl⟩; rw [H.out])
    go_loop [0] (fun t => ∃ m : Int, n ≤ m ∧ m ≤ n + (k - n) % 7 ∧ t = .int .i64 m) (fun t => (n + 7 - intOf t).toNat)
    case atStart => exact ⟨n, by omega, by omega, rfl⟩
    case round =>
      obtain ⟨m, hm1, hm2, rfl⟩ := hrel
      by_cases hc : m % 7 = k
      · have hb : (m % 7 != k) = false := by simpa using hc
        have e : n + (k - n) % 7 = m := by omega
        have E := Lib.hid e
        have hm3 : m ≤ n + 6 := by omega
        clear hc e
        go_wp2_with (go_at_call 16; refine (rof_c _ _ (by omega) (by omega)).mono ?_; rintro e w' ⟨rfl, rfl⟩)
        go_ret2
        exact ⟨ret_ii (by rw [HR.out, E.out]) H.out.symm, rfl⟩
      · have hb : (m % 7 != k) = true := by simpa using hc
        have e : m + 1 ≤ n + (k - n) % 7 := by omega
        have E := Lib.hid e
        have hm3 : m ≤ n + 6 := by omega
        clear hc e
        go_wp2_with (go_at_call 16; refine (rof_c _ _ (by omega) (by omega)).mono ?_; rintro e w' ⟨rfl, rfl⟩)
        go_round
        case rel => exact ⟨m + 1, by omega, E.out, rfl⟩
        case measure => simp [intOf]; omega
  · have H := Lib.hid h
    have h0 : (vErr n k != 0) = true := by simpa using h
    generalize hv : vErr n k = v at *
    have HV := Lib.hid hv
    clear h hv
    go_enter Tryd.func10, Tryd.ntmps10
    go_wp2_with (first | (go_at_call 22; refine (fails_c _ _ _).mono ?_; rintro e w' ⟨rfl, rfl⟩; rw [HV.out]))
    go_ret2
    exact ⟨ret_ii (by unfold vAfter; rw [HV.out, if_neg H.out]) rfl, rfl⟩

set_option maxHeartbeats 400000 in
theorem rbefore_c (n k : Int) (w : World) : Calls Tryd.prog 12 #[.int .i64 n, .int .i64 k] w fun e w' => e = .returned (.tuple #[.int .i64 (vBefore n k), .int .i64 (vErr n k)]) ∧ w = w' := by
  by_cases h : vErr n k = 0
  · obtain ⟨h1, h2, h3, h4⟩ := vErr_zero h
    have H := Lib.hid h
    have HR := Lib.hid (show vBefore n k = n - (n - k) % 7 by unfold vBefore; rw [if_pos h])
    clear h
    go_enter Tryd.func12, Tryd.ntmps12
    go_wp2_with (go_at_call 22; refine (fails_c _ _ _).mono ?_; rintro e w' ⟨rfl, rfl⟩; rw [H.out])
    go_loop [0] (fun t => ∃ m : Int, m ≤ n ∧ n - (n - k) % 7 ≤ m ∧ t = .int .i64 m) (fun t => (intOf t - (n - 7)).toNat)
    case atStart => exact ⟨n, by omega, by omega, rfl⟩
    case round =>
      obtain ⟨m, hm1, hm2, rfl⟩ := hrel
      by_cases hc : m % 7 = k
      · have hb : (m % 7 != k) = false := by simpa using hc
        have e : n - (n - k) % 7 = m := by omega
        have E := Lib.hid e
        have hm3 : n - 6 ≤ m := by omega
        clear hc e
        go_wp2_with (go_at_call 16; refine (rof_c _ _ (by omega) (by omega)).mono ?_; rintro e w' ⟨rfl, rfl⟩)
        go_ret2
        exact ⟨ret_ii (by rw [HR.out, E.out]) H.out.symm, rfl⟩
      · have hb : (m % 7 != k) = true := by simpa using hc
        have e : n - (n - k) % 7 ≤ m - 1 := by omega
        have E := Lib.hid e
        have hm3 : n - 6 ≤ m := by omega
        clear hc e
        go_wp2_with (go_at_call 16; refine (rof_c _ _ (by omega) (by omega)).mono ?_; rintro e w' ⟨rfl, rfl⟩)
        go_round
        case rel => exact ⟨m - 1, by omega, E.out, rfl⟩
        case measure => simp [intOf]; omega
  · have H := Lib.hid h
    have h0 : (vErr n k != 0) = true := by simpa using h
    generalize hv : vErr n k = v at *
    have HV := Lib.hid hv
    clear h hv
    go_enter Tryd.func12, Tryd.ntmps12
    go_wp2_with (first | (go_at_call 22; refine (fails_c _ _ _).mono ?_; rintro e w' ⟨rfl, rfl⟩; rw [HV.out]))
    go_ret2
    exact ⟨ret_ii (by unfold vBefore; rw [HV.out, if_neg H.out]) rfl, rfl⟩

def vNthE (n k c : Int) : Int := if k < 0 ∨ 6 < k ∨ c = 0 ∨ c < -1000 ∨ 1000 < c then 3 else vErr n k
def vNth (n k c : Int) : Int := if vNthE n k c = 0 then (if 0 < c then vAfter n k + 7 * (c - 1) else vBefore n k + 7 * (c + 1)) else 0
theorem vErr_bad {n k : Int} (h : k < 0 ∨ 6 < k) : vErr n k = 3 := by unfold vErr; rw [if_pos h]
theorem vNth_bad {n k c : Int} (h : k < 0 ∨ 6 < k ∨ c = 0 ∨ c < -1000 ∨ 1000 < c) : vNthE n k c = 3 ∧ vNth n k c = 0 := by
  have e : vNthE n k c = 3 := by unfold vNthE; rw [if_pos h]
  unfold vNth; rw [e]; exact ⟨rfl, rfl⟩
theorem vNth_err {n k c : Int} (h : ¬ (k < 0 ∨ 6 < k ∨ c = 0 ∨ c < -1000 ∨ 1000 < c)) : vNthE n k c = vErr n k := by unfold vNthE; rw [if_neg h]
theorem vNth_zero {n k c : Int} (h : ¬ (k < 0 ∨ 6 < k ∨ c = 0 ∨ c < -1000 ∨ 1000 < c)) (he : ¬ vErr n k = 0) : vNth n k c = 0 := by unfold vNth; rw [vNth_err h, if_neg he]
theorem vNth_pos {n k c : Int} (h : ¬ (k < 0 ∨ 6 < k ∨ c = 0 ∨ c < -1000 ∨ 1000 < c)) (he : vErr n k = 0) (hc : 0 < c) : vNth n k c = vAfter n k + 7 * (c - 1) := by unfold vNth; rw [vNth_err h, if_pos he, if_pos hc]
theorem vNth_neg {n k c : Int} (h : ¬ (k < 0 ∨ 6 < k ∨ c = 0 ∨ c < -1000 ∨ 1000 < c)) (he : vErr n k = 0) (hc : ¬ 0 < c) : vNth n k c = vBefore n k + 7 * (c + 1) := by unfold vNth; rw [vNth_err h, if_pos he, if_neg hc]
theorem vAfter_zero {n k : Int} (he : ¬ vErr n k = 0) : vAfter n k = 0 := by unfold vAfter; rw [if_neg he]
theorem vBefore_zero {n k : Int} (he : ¬ vErr n k = 0) : vBefore n k = 0 := by unfold vBefore; rw [if_neg he]
theorem vAfter_in {n k : Int} (he : vErr n k = 0) : n ≤ vAfter n k ∧ vAfter n k ≤ n + 6 := by unfold vAfter; rw [if_pos he]; omega
theorem vBefore_in {n k : Int} (he : vErr n k = 0) : n - 6 ≤ vBefore n k ∧ vBefore n k ≤ n := by unfold vBefore; rw [if_pos he]; omega

set_option maxHeartbeats 400000 in
theorem nth_bad1 (n k c : Int) (w : World) (h : k < 0 ∨ 6 < k) : Calls Tryd.prog 13 #[.int .i64 n, .int .i64 k, .int .i64 c] w fun e w' => e = .returned (.tuple #[.int .i64 0, .int .i64 3]) ∧ Below w.heap.size w w' := by
  have HB := Below.refl w.heap.size w
  have HE := Lib.hid (vErr_bad (n := n) h)
  have HA := Lib.hid (vAfter_zero (n := n) (k := k) (by rw [HE.out]; omega))
  have HC := Lib.hid (vBefore_zero (n := n) (k := k) (by rw [HE.out]; omega))
  rcases h with h | h
  · by_cases hc : 0 < c
    all_goals
      go_enter Tryd.func13, Tryd.ntmps13
      go_wp2_with (first | (go_at_call 9; refine (after_c _ _ _).mono ?_; rintro e w' ⟨rfl, hw⟩; replace HB := chain HB hw; clear hw; rw [HE.out, HA.out]) | (go_at_call 11; refine (before_c _ _ _).mono ?_; rintro e w' ⟨rfl, hw⟩; replace HB := chain HB hw; clear hw; rw [HE.out, HC.out]))
      go_ret2
      exact ⟨rfl, HB⟩
  · by_cases hc : 0 < c
    all_goals
      go_enter Tryd.func13, Tryd.ntmps13
      go_wp2_with (first | (go_at_call 9; refine (after_c _ _ _).mono ?_; rintro e w' ⟨rfl, hw⟩; replace HB := chain HB hw; clear hw; rw [HE.out, HA.out]) | (go_at_call 11; refine (before_c _ _ _).mono ?_; rintro e w' ⟨rfl, hw⟩; replace HB := chain HB hw; clear hw; rw [HE.out, HC.out]))
      go_ret2
      exact ⟨rfl, HB⟩

set_option maxHeartbeats 400000 in
theorem nth_bad2 (n k c : Int) (w : World) (h0 : 0 ≤ k) (h1 : k ≤ 6) (h : c = 0 ∨ c < -1000 ∨ 1000 < c) : Calls Tryd.prog 13 #[.int .i64 n, .int .i64 k, .int .i64 c] w fun e w' => e = .returned (.tuple #[.int .i64 0, .int .i64 3]) ∧ Below w.heap.size w w' := by
  have HB := Below.refl w.heap.size w
  rcases h with h | h | h
  · have h2 : (c == 0) = true := by simpa using h
    clear h
    go_enter Tryd.func13, Tryd.ntmps13
    go_wp2_with fail
    go_ret2
    exact ⟨rfl, HB⟩
  · have h2 : (c == 0) = false := by simp; omega
    go_enter Tryd.func13, Tryd.ntmps13
    go_wp2_with fail
    go_ret2
    exact ⟨rfl, HB⟩
  · have h2 : (c == 0) = false := by simp; omega
    go_enter Tryd.func13, Tryd.ntmps13
    go_wp2_with fail
    go_ret2
    exact ⟨rfl, HB⟩

set_option maxHeartbeats 400000 in
theorem nth_good (n k c : Int) (w : World) (h : ¬ (k < 0 ∨ 6 < k ∨ c = 0 ∨ c < -1000 ∨ 1000 < c)) : Calls Tryd.prog 13 #[.int .i64 n, .int .i64 k, .int .i64 c] w fun e w' => e = .returned (.tuple #[.int .i64 (vNth n k c), .int .i64 (vNthE n k c)]) ∧ Below w.heap.size w w' := by
  have HB := Below.refl w.heap.size w
  have HF := Lib.hid (vNth_err (n := n) h)
  have h0 : 0 ≤ k := by omega
  have h1 : k ≤ 6 := by omega
  have h2 : (c == 0) = false := by simp; omega
  have h3 : -1000 ≤ c := by omega
  have h4 : c ≤ 1000 := by omega
  by_cases he : vErr n k = 0
  · obtain ⟨_, _, h5, h6⟩ := vErr_zero he
    by_cases hc : 0 < c
    · obtain ⟨h7, h8⟩ := vAfter_in he
      have HV := Lib.hid (vNth_pos h he hc)
      have HE := Lib.hid he
      clear he h
      go_enter Tryd.func13, Tryd.ntmps13
      go_wp2_with (first | (go_at_call 9; refine (after_c _ _ _).mono ?_; rintro e w' ⟨rfl, hw⟩; replace HB := chain HB hw; clear hw; rw [HE.out]))
      go_ret2
      exact ⟨ret_ii HV.out.symm (by rw [HF.out, HE.out]), HB⟩
    · obtain ⟨h7, h8⟩ := vBefore_in he
      have HV := Lib.hid (vNth_neg h he hc)
      have HE := Lib.hid he
      clear he h
      go_enter Tryd.func13, Tryd.ntmps13
      go_wp2_with (first | (go_at_call 11; refine (before_c _ _ _).mono ?_; rintro e w' ⟨rfl, hw⟩; replace HB := chain HB hw; clear hw; rw [HE.out]))
      go_ret2
      exact ⟨ret_ii HV.out.symm (by rw [HF.out, HE.out]), HB⟩
  · have HV := Lib.hid (vNth_zero h he)
    have HA := Lib.hid (vAfter_zero he)
    have HC := Lib.hid (vBefore_zero he)
    have hb : (vErr n k != 0) = true := by simpa using he
    clear he h
    by_cases hc : 0 < c
    all_goals
      go_enter Tryd.func13, Tryd.ntmps13
      go_wp2_with (first | (go_at_call 9; refine (after_c _ _ _).mono ?_; rintro e w' ⟨rfl, hw⟩; replace HB := chain HB hw; clear hw; rw [HA.out]) | (go_at_call 11; refine (before_c _ _ _).mono ?_; rintro e w' ⟨rfl, hw⟩; replace HB := chain HB hw; clear hw; rw [HC.out]))
      go_ret2
      exact ⟨ret_ii HV.out.symm HF.out.symm, HB⟩

theorem nth_c (n k c : Int) (w : World) : Calls Tryd.prog 13 #[.int .i64 n, .int .i64 k, .int .i64 c] w fun e w' => e = .returned (.tuple #[.int .i64 (vNth n k c), .int .i64 (vNthE n k c)]) ∧ Below w.heap.size w w' := by
  by_cases h : k < 0 ∨ 6 < k ∨ c = 0 ∨ c < -1000 ∨ 1000 < c
  · obtain ⟨e1, e2⟩ := vNth_bad (n := n) h
    rw [e1, e2]
    by_cases hk : k < 0 ∨ 6 < k
    · exact nth_bad1 n k c w hk
    · exact nth_bad2 n k c w (by omega) (by omega) (by omega)
  · exact nth_good n k c w h

set_option maxHeartbeats 400000 in
theorem rnth_bad (n k c : Int) (w : World) (h : k < 0 ∨ 6 < k ∨ c = 0 ∨ c < -1000 ∨ 1000 < c) : Calls Tryd.prog 14 #[.int .i64 n, .int .i64 k, .int .i64 c] w fun e w' => e = .returned (.tuple #[.int .i64 0, .int .i64 3]) ∧ w = w' := by
  by_cases h1 : k < 0
  · go_enter Tryd.func14, Tryd.ntmps14
    go_wp2_with fail
    go_ret2
    exact ⟨rfl, rfl⟩
  by_cases h2 : 6 < k
  · go_enter Tryd.func14, Tryd.ntmps14
    go_wp2_with fail
    go_ret2
    exact ⟨rfl, rfl⟩
  by_cases h3 : c = 0
  · subst h3
    go_enter Tryd.func14, Tryd.ntmps14
    go_wp2_with fail
    go_ret2
    exact ⟨rfl, rfl⟩
  have h3' : (c == 0) = false := by simpa using h3
  by_cases h4 : c < -1000
  · clear h h3
    go_enter Tryd.func14, Tryd.ntmps14
    go_wp2_with fail
    go_ret2
    exact ⟨rfl, rfl⟩
  have h5 : 1000 < c := by omega
  clear h h3
  go_enter Tryd.func14, Tryd.ntmps14
  go_wp2_with fail
  go_ret2
  exact ⟨rfl, rfl⟩

set_option maxHeartbeats 400000 in
theorem rnth_pos (n k c : Int) (w : World) (h0 : 0 ≤ k) (h1 : k ≤ 6) (hc : 0 < c) (h4 : c ≤ 1000) (h2 : (c == 0) = false) : Calls Tryd.prog 14 #[.int .i64 n, .int .i64 k, .int .i64 c] w fun e w' => e = .returned (.tuple #[.int .i64 (vNth n k c), .int .i64 (vErr n k)]) ∧ w = w' := by
  have hg : ¬ (k < 0 ∨ 6 < k ∨ c = 0 ∨ c < -1000 ∨ 1000 < c) := by simp at h2; omega
  by_cases he : vErr n k = 0
  · obtain ⟨_, _, h5, h6⟩ := vErr_zero he
    obtain ⟨h7, h8⟩ := vAfter_in he
    have HV := Lib.hid (vNth_pos hg he hc)
    have HE := Lib.hid he
    clear he hg
    go_enter Tryd.func14, Tryd.ntmps14
    go_wp2_with (first | (go_at_call 10; refine (rafter_c _ _ _).mono ?_; rintro e w' ⟨rfl, rfl⟩; rw [HE.out]))
    go_loop [8, 10] (fun d i => ∃ m : Int, 1 ≤ m ∧ m ≤ c ∧ i = .int .i64 m ∧ d = .int .i64 (vAfter n k + 7 * (m - 1))) (fun _ i => (c - intOf i).toNat)
    case atStart => exact ⟨1, by omega, by omega, rfl, by simp⟩
    case round =>
      obtain ⟨m, hm1, hm2, rfl, rfl⟩ := hrel
      by_cases hmc : m < c
      · go_wp2_with fail
        go_round
        case rel => exact ⟨m + 1, by omega, by omega, rfl, by go_num⟩
        case measure => simp [intOf]; omega
      · obtain rfl : m = c := by omega
        go_wp2_with fail
        go_ret2
        exact ⟨ret_ii HV.out.symm HE.out.symm, rfl⟩
  · have HV := Lib.hid (vNth_zero hg he)
    have HA := Lib.hid (vAfter_zero he)
    have hb : (vErr n k == 0) = false := by simpa using he
    clear he hg
    go_enter Tryd.func14, Tryd.ntmps14
    go_wp2_with (first | (go_at_call 10; refine (rafter_c _ _ _).mono ?_; rintro e w' ⟨rfl, rfl⟩; rw [HA.out]))
    go_loop [8, 10] (fun d i => i = .int .i64 1 ∧ d = .int .i64 0) (fun _ i => 0)
    case atStart => exact ⟨rfl, rfl⟩
    case round =>
      obtain ⟨rfl, rfl⟩ := hrel
      by_cases hmc : 1 < c
      all_goals
        go_wp2_with fail
        go_ret2
        exact ⟨ret_ii HV.out.symm rfl, rfl⟩

set_option maxHeartbeats 400000 in
theorem rnth_neg (n k c : Int) (w : World) (h0 : 0 ≤ k) (h1 : k ≤ 6) (hc : c < 0) (h4 : -1000 ≤ c) (h2 : (c == 0) = false) : Calls Tryd.prog 14 #[.int .i64 n, .int .i64 k, .int .i64 c] w fun e w' => e = .returned (.tuple #[.int .i64 (vNth n k c), .int .i64 (vErr n k)]) ∧ w = w' := by
  have hg : ¬ (k < 0 ∨ 6 < k ∨ c = 0 ∨ c < -1000 ∨ 1000 < c) := by simp at h2; omega
  by_cases he : vErr n k = 0
  · obtain ⟨_, _, h5, h6⟩ := vErr_zero he
    obtain ⟨h7, h8⟩ := vBefore_in he
    have HV := Lib.hid (vNth_neg hg he (by omega))
    have HE := Lib.hid he
    clear he hg
    go_enter Tryd.func14, Tryd.ntmps14
    go_wp2_with (first | (go_at_call 12; refine (rbefore_c _ _ _).mono ?_; rintro e w' ⟨rfl, rfl⟩; rw [HE.out]))
    go_loop [11, 13] (fun d i => ∃ m : Int, c ≤ m ∧ m ≤ -1 ∧ i = .int .i64 m ∧ d = .int .i64 (vBefore n k + 7 * (m + 1))) (fun _ i => (intOf i - c).toNat)
    case atStart => exact ⟨-1, by omega, by omega, rfl, by simp⟩
    case round =>
      obtain ⟨m, hm1, hm2, rfl, rfl⟩ := hrel
      by_cases hmc : c < m
      · go_wp2_with fail
        go_round
        case rel => exact ⟨m - 1, by omega, by omega, rfl, by go_num⟩
        case measure => simp [intOf]; omega
      · obtain rfl : m = c := by omega
        go_wp2_with fail
        go_ret2
        exact ⟨ret_ii HV.out.symm HE.out.symm, rfl⟩
  · have HV := Lib.hid (vNth_zero hg he)
    have HA := Lib.hid (vBefore_zero he)
    have hb : (vErr n k == 0) = false := by simpa using he
    clear he hg
    go_enter Tryd.func14, Tryd.ntmps14
    go_wp2_with (first | (go_at_call 12; refine (rbefore_c _ _ _).mono ?_; rintro e w' ⟨rfl, rfl⟩; rw [HA.out]))
    go_loop [11, 13] (fun d i => i = .int .i64 (-1) ∧ d = .int .i64 0) (fun _ i => 0)
    case atStart => exact ⟨rfl, rfl⟩
    case round =>
      obtain ⟨rfl, rfl⟩ := hrel
      by_cases hmc : c < -1
      all_goals
        go_wp2_with fail
        go_ret2
        exact ⟨ret_ii HV.out.symm rfl, rfl⟩

theorem rnth_c (n k c : Int) (w : World) : Calls Tryd.prog 14 #[.int .i64 n, .int .i64 k, .int .i64 c] w fun e w' => e = .returned (.tuple #[.int .i64 (vNth n k c), .int .i64 (vNthE n k c)]) ∧ w = w' := by
  by_cases h : k < 0 ∨ 6 < k ∨ c = 0 ∨ c < -1000 ∨ 1000 < c
  · obtain ⟨e1, e2⟩ := vNth_bad (n := n) h
    rw [e1, e2]
    exact rnth_bad n k c w h
  · rw [vNth_err h]
    have h2 : (c == 0) = false := by simp; omega
    by_cases hc : 0 < c
    · exact rnth_pos n k c w (by omega) (by omega) hc (by omega) h2
    · exact rnth_neg n k c w (by omega) (by omega) (by omega) (by omega) h2
end Go.Proofs.YtckkllbnmnpafaaDoor
