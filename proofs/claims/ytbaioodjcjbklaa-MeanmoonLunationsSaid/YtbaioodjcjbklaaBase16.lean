/-
  The walk of the law MeanmoonLunations.
-/
import Derived.Test.YtbaioodjcjbklaaBase15
namespace Go.Proofs.Ytbaioodjcjbklaa
open Go.RowKit
set_option maxRecDepth 100000 in
set_option maxHeartbeats 1000000 in
theorem lun_w (k : Int) (w : World) (h1 : -32768 ≤ k) (h2 : k ≤ 32767) : Calls Try.prog 6 #[.int .i16 k] w fun e w' => e = .returned (.bool true) ∧ Below w.heap.size w w' := by
  obtain ⟨u, v, e1, e2, l1, l2, i1, i2, o1, o2⟩ := lun_law h1 h2
  have H1 : ∀ t w, (binOp .add t (.float .f64 (nm k)) (.float .f64 4624070917402656768)).run Try.prog w = .ok (.float .f64 u) w := fun t w => run_float_arith w .add t .f64 _ _ _ e1
  have H2 : ∀ t w, (binOp .sub t (.float .f64 (nm k)) (.float .f64 4624070917402656768)).run Try.prog w = .ok (.float .f64 v) w := fun t w => run_float_arith w .sub t .f64 _ _ _ e2
  have HN := Lib.hid (fun w => newmoon_c k w (by omega))
  have HU := Lib.hid (fun w => lun_yes u w l1)
  have HV := Lib.hid (fun w => lun_yes v w l2)
  have HP := Lib.hid (fun w => phase_c u w)
  have HW : wrap64 k = k := by unfold wrap64; omega
  have HW2 : wrap64 (k - 1) = k - 1 := by unfold wrap64; omega
  rw [i1] at HU
  rw [i2] at HV
  clear e1 e2 l1 l2 i1 i2
  generalize ph u = p at *
  generalize nm k = m at *
  go_enter Try.func6, Try.ntmps6
  go_wp2_with first
    | (go_at_call 9; refine (awake_c _).mono ?_; rintro e w1 ⟨rfl, hA⟩)
    | (go_at_call 14; with_reducible refine (HN.out _).mono ?_; rintro e w1 ⟨rfl, rfl⟩)
    | (go_at_call 15; with_reducible refine (HU.out _).mono ?_; rintro e w1 ⟨rfl, rfl⟩)
    | (go_at_call 15; with_reducible refine (HV.out _).mono ?_; rintro e w1 ⟨rfl, rfl⟩)
    | (go_at_call 16; with_reducible refine (HP.out _).mono ?_; rintro e w1 ⟨rfl, hB⟩)
    | go_in
  all_goals first
    | (go_ret; exact ⟨rfl, chain hA hB⟩)
    | trace_state
end Go.Proofs.Ytbaioodjcjbklaa
