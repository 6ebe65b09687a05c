/-
  The contract of function Class of package meanmoon, for all double-precision words.
-/
import Derived.Test.YtbaioodjcjbklaaBase3
import Derived.Laws.EntriesVeiled
import Derived.Deep.WholeRow
namespace Go.Proofs.Ytbaioodjcjbklaa
open Go.RowKit
/-- the class -/
def cls (x : Nat) : Nat := if nanB x then 0 else if infB x then 1 else if rungOf x = 0 then 2 else if rungOf x < 4503599627370496 then 3 else 4
theorem cls_le (x : Nat) : cls x ≤ 4 := by unfold cls; split <;> (try omega); split <;> (try omega); split <;> (try omega); split <;> omega
theorem cls_t0 (x : Nat) : (FloatKind.f64.format.order x x != some Ordering.eq) = decide (cls x = 0) := by
  rw [nan_test]; unfold cls
  cases nanB x
  · simp only [Bool.false_eq_true, if_false]; rw [eq_comm, decide_eq_false_iff_not]; split <;> (try omega); split <;> (try omega); split <;> omega
  · simp
theorem cls_t1 {x : Nat} (h : 1 ≤ cls x) : infB x = decide (cls x = 1) := by
  unfold cls at *
  cases hn : nanB x
  · rw [hn] at h
    cases hi : infB x
    · simp only [Bool.false_eq_true, if_false]; rw [eq_comm, decide_eq_false_iff_not]; split <;> (try omega); split <;> omega
    · simp
  · rw [hn] at h; simp at h
theorem cls_proper {x : Nat} (h : 1 ≤ cls x) : rungOf x ≤ 9218868437227405312 := by
  unfold cls at h
  cases hn : nanB x
  · rw [nanB_iff] at hn; exact hn
  · rw [hn] at h; simp at h
theorem cls_t2 {x : Nat} (h : 2 ≤ cls x) : (FloatKind.f64.format.order x 0 == some Ordering.eq) = decide (cls x = 2) := by
  have hp := cls_proper (x := x) (by omega)
  rw [fmt64, order_nn hp (by decide), show sval 0 = 0 by decide]
  have e : (some (compare (sval x) 0) == some Ordering.eq) = decide (rungOf x = 0) := by
    by_cases h0 : rungOf x = 0
    · have : sval x = 0 := by unfold sval; rw [h0, V_zero]; split <;> rfl
      rw [this, decide_eq_true h0]; rfl
    · have h1 : 0 < V (rungOf x) := by have := V_lt (Nat.pos_of_ne_zero h0); omega
      rw [decide_eq_false h0, Bool.eq_false_iff, ne_eq, beq_iff_eq, Option.some.injEq, Int.compare_eq_eq]
      unfold sval; split <;> omega
  rw [e, decide_eq_decide]
  unfold cls at *
  cases hn : nanB x
  · cases hi : infB x
    · simp only [Bool.false_eq_true, if_false]; split <;> rename_i h0 <;> simp [h0]; split <;> omega
    · rw [hn, hi] at h; simp at h
  · rw [hn] at h; simp at h
theorem cls_t3 {x : Nat} (h : 3 ≤ cls x) : (FloatKind.f64.format.order (rungOf x) 4503599627370496 == some Ordering.lt) = decide (cls x = 3) := by
  have hp := cls_proper (x := x) (by omega)
  rw [order_small hp (by omega)]
  have e : (some (compare (rungOf x) 4503599627370496) == some Ordering.lt) = decide (rungOf x < 4503599627370496) := by
    rw [Bool.eq_iff_iff, beq_iff_eq, Option.some.injEq, Nat.compare_eq_lt, decide_eq_true_eq]
  rw [e, decide_eq_decide]
  unfold cls at *
  cases hn : nanB x
  · cases hi : infB x
    · simp only [Bool.false_eq_true, if_false]
      by_cases h0 : rungOf x = 0
      · rw [hn, hi] at h; simp [h0] at h
      · simp only [h0, if_false]; split <;> omega
    · rw [hn, hi] at h; simp at h
  · rw [hn] at h; simp at h
@[go_sem] theorem idx0 (f g h i : Fn) (p q r t : Array Value) (w : World) : (Instr.index 46 (.agg #[.func f #[] p, .func g #[] q, .func h #[] r, .func i #[] t]) (.int .i64 0)).run Try.prog w = .ok (.func f #[] p) w := by
  have h1 : Try.prog.underlying 46 = some (.array 4 23) := by kernel_rfl
  simp [Instr.index, run_underlying h1, asIntOf, go_sem]
@[go_sem] theorem idx1 (f g h i : Fn) (p q r t : Array Value) (w : World) : (Instr.index 46 (.agg #[.func f #[] p, .func g #[] q, .func h #[] r, .func i #[] t]) (.int .i64 1)).run Try.prog w = .ok (.func g #[] q) w := by
  have h1 : Try.prog.underlying 46 = some (.array 4 23) := by kernel_rfl
  simp [Instr.index, run_underlying h1, asIntOf, go_sem]
@[go_sem] theorem idx2 (f g h i : Fn) (p q r t : Array Value) (w : World) : (Instr.index 46 (.agg #[.func f #[] p, .func g #[] q, .func h #[] r, .func i #[] t]) (.int .i64 2)).run Try.prog w = .ok (.func h #[] r) w := by
  have h1 : Try.prog.underlying 46 = some (.array 4 23) := by kernel_rfl
  simp [Instr.index, run_underlying h1, asIntOf, go_sem]
@[go_sem] theorem idx3 (f g h i : Fn) (p q r t : Array Value) (w : World) : (Instr.index 46 (.agg #[.func f #[] p, .func g #[] q, .func h #[] r, .func i #[] t]) (.int .i64 3)).run Try.prog w = .ok (.func i #[] t) w := by
  have h1 : Try.prog.underlying 46 = some (.array 4 23) := by kernel_rfl
  simp [Instr.index, run_underlying h1, asIntOf, go_sem]
set_option maxHeartbeats 800000 in
theorem class_c (x : Nat) (w : World) (hx : x < 18446744073709551616) : Calls Try.prog 13 #[.float .f64 x] w fun e w' => e = .returned (.int .i64 (cls x : Nat)) ∧ Below w.heap.size w w' := by
  have HX := Lib.hid hx
  clear hx
  go_enter Try.func13, Try.ntmps13
  go_wp2
  go_loop [4, 5, 12] (fun _ _ i => ∃ k : Nat, k ≤ cls x ∧ i = .int .i64 k) (fun _ _ i => 5 - (intOf i).toNat)
  case atStart => exact ⟨0, Nat.zero_le _, rfl⟩
  case round =>
    obtain ⟨k, hk, rfl⟩ := hrel
    have h4 := Lib.hid (cls_le x)
    rcases (by have := h4.out; omega : k = 0 ∨ k = 1 ∨ k = 2 ∨ k = 3 ∨ k = 4) with rfl | rfl | rfl | rfl | rfl
    · have T := cls_t0 x
      have HK := Lib.hid hk
      clear hk
      by_cases hc : cls x = 0
      · rw [decide_eq_true hc] at T
        have HC := Lib.hid hc
        clear hc
        go_wp2_with first
          | (go_at_call 39; refine (isinf_c _ _ HX.out).mono ?_; rintro e w' ⟨rfl, rfl⟩)
          | (go_at_call 35; refine (abs_c _ _ HX.out).mono ?_; rintro e w' ⟨rfl, rfl⟩)
          | go_in
        go_ret
        exact ⟨ret_int (by rw [HC.out]; try rfl), ((Below.refl _ _).alloc (Nat.le_refl _) _).alloc (by simp) _⟩
      · rw [decide_eq_false hc] at T
        have HC := Lib.hid hc
        clear hc
        go_wp2_with first
          | (go_at_call 39; refine (isinf_c _ _ HX.out).mono ?_; rintro e w' ⟨rfl, rfl⟩)
          | (go_at_call 35; refine (abs_c _ _ HX.out).mono ?_; rintro e w' ⟨rfl, rfl⟩)
          | go_in
        go_round
        case rel => exact ⟨1, by have := HC.out; have := HK.out; omega, rfl⟩
        case measure => simp [intOf]
    · have T := cls_t1 hk
      have HK := Lib.hid hk
      clear hk
      by_cases hc : cls x = 1
      · rw [decide_eq_true hc] at T
        have HC := Lib.hid hc
        clear hc
        go_wp2_with first
          | (go_at_call 39; refine (isinf_c _ _ HX.out).mono ?_; rintro e w' ⟨rfl, rfl⟩)
          | (go_at_call 35; refine (abs_c _ _ HX.out).mono ?_; rintro e w' ⟨rfl, rfl⟩)
          | go_in
        go_ret
        exact ⟨ret_int (by rw [HC.out]; try rfl), ((Below.refl _ _).alloc (Nat.le_refl _) _).alloc (by simp) _⟩
      · rw [decide_eq_false hc] at T
        have HC := Lib.hid hc
        clear hc
        go_wp2_with first
          | (go_at_call 39; refine (isinf_c _ _ HX.out).mono ?_; rintro e w' ⟨rfl, rfl⟩)
          | (go_at_call 35; refine (abs_c _ _ HX.out).mono ?_; rintro e w' ⟨rfl, rfl⟩)
          | go_in
        go_round
        case rel => exact ⟨2, by have := HC.out; have := HK.out; omega, rfl⟩
        case measure => simp [intOf]
    · have T := cls_t2 hk
      have HK := Lib.hid hk
      clear hk
      by_cases hc : cls x = 2
      · rw [decide_eq_true hc] at T
        have HC := Lib.hid hc
        clear hc
        go_wp2_with first
          | (go_at_call 39; refine (isinf_c _ _ HX.out).mono ?_; rintro e w' ⟨rfl, rfl⟩)
          | (go_at_call 35; refine (abs_c _ _ HX.out).mono ?_; rintro e w' ⟨rfl, rfl⟩)
          | go_in
        go_ret
        exact ⟨ret_int (by rw [HC.out]; try rfl), ((Below.refl _ _).alloc (Nat.le_refl _) _).alloc (by simp) _⟩
      · rw [decide_eq_false hc] at T
        have HC := Lib.hid hc
        clear hc
        go_wp2_with first
          | (go_at_call 39; refine (isinf_c _ _ HX.out).mono ?_; rintro e w' ⟨rfl, rfl⟩)
          | (go_at_call 35; refine (abs_c _ _ HX.out).mono ?_; rintro e w' ⟨rfl, rfl⟩)
          | go_in
        go_round
        case rel => exact ⟨3, by have := HC.out; have := HK.out; omega, rfl⟩
        case measure => simp [intOf]
    · have T := cls_t3 hk
      have HK := Lib.hid hk
      clear hk
      by_cases hc : cls x = 3
      · rw [decide_eq_true hc] at T
        have HC := Lib.hid hc
        clear hc
        go_wp2_with first
          | (go_at_call 39; refine (isinf_c _ _ HX.out).mono ?_; rintro e w' ⟨rfl, rfl⟩)
          | (go_at_call 35; refine (abs_c _ _ HX.out).mono ?_; rintro e w' ⟨rfl, rfl⟩)
          | go_in
        go_ret
        exact ⟨ret_int (by rw [HC.out]; try rfl), ((Below.refl _ _).alloc (Nat.le_refl _) _).alloc (by simp) _⟩
      · rw [decide_eq_false hc] at T
        have HC := Lib.hid hc
        clear hc
        go_wp2_with first
          | (go_at_call 39; refine (isinf_c _ _ HX.out).mono ?_; rintro e w' ⟨rfl, rfl⟩)
          | (go_at_call 35; refine (abs_c _ _ HX.out).mono ?_; rintro e w' ⟨rfl, rfl⟩)
          | go_in
        go_round
        case rel => exact ⟨4, by have := HC.out; have := HK.out; omega, rfl⟩
        case measure => simp [intOf]
    · have HK := Lib.hid hk
      clear hk
      go_wp2
      go_ret
      exact ⟨ret_int (by rw [show cls x = 4 by have := HK.out; have := h4.out; omega]; try rfl), ((Below.refl _ _).alloc (Nat.le_refl _) _).alloc (by simp) _⟩
end Go.Proofs.Ytbaioodjcjbklaa
