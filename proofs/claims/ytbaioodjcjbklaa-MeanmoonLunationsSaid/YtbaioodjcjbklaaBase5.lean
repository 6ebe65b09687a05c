/-
  Package computuslaw15's fixed examples ('awake') answer true.
-/
import Derived.Test.YtbaioodjcjbklaaBase4
namespace Go.Proofs.Ytbaioodjcjbklaa
open Go.RowKit
theorem chain {w w1 w2 : World} (h : Below w.heap.size w w1) (g : Below w1.heap.size w1 w2) : Below w.heap.size w w2 := h.trans (g.mono h.size)
theorem k_qq : qq 4694518943220530644 = 0 := by decide +kernel
theorem k_reg : reg 4694518943220530644 = true := by decide +kernel
theorem k_lunB : lunB 4694518943220530644 = true := by decide +kernel
theorem k_lun : iway .down (qq 4694518943220530644) = 0 := by rw [k_qq]; unfold iway; rw [U_eq]; decide +kernel
theorem k_ph : ph 4694518943220530644 = 0 := by decide +kernel
theorem k_phi : ph 18442240474082181120 = 9221120237041090561 := by decide +kernel
theorem k_nan : nanB 9221120237041090561 = true := by decide +kernel
theorem k_25 : okR 4612811918334230528 = true := by decide +kernel
theorem k_35 : okR 4615063718147915776 = true := by decide +kernel
theorem k_inf : okR 9218868437227405312 = false := by decide +kernel
theorem k_r25 : rint 4612811918334230528 = 2 := by unfold rint rmag; rw [U_eq]; decide +kernel
theorem k_r35 : rint 4615063718147915776 = 4 := by unfold rint rmag; rw [U_eq]; decide +kernel
theorem k_b1 : befB 9223372036854775808 0 = true := by decide +kernel
theorem k_b2 : befB 0 9223372036854775808 = false := by decide +kernel
theorem k_c1 : cls 9221120237041090561 = 0 := by decide +kernel
theorem k_c2 : cls 4607182418800017408 = 4 := by decide +kernel
theorem k_cs : (bits BinOp.or IntKind.u64 (bits BinOp.andNot IntKind.u64 (bitsOf 0) 9223372036854775808) (bits BinOp.and IntKind.u64 (bitsOf 13830554455654793216) 9223372036854775808)).toNat = 9223372036854775808 := by
  rw [bitsOf_eq, bitsOf_eq]; decide +kernel
set_option maxHeartbeats 400000 in
theorem copysign_k (w : World) : Calls Try.prog 32 #[.float .f64 0, .float .f64 13830554455654793216] w fun e w' => e = .returned (.float .f64 9223372036854775808) ∧ w = w' := by
  have H := Lib.hid k_cs
  go_enter Try.func32, Try.ntmps32
  go_wp2
  all_goals go_ret
  all_goals exact ⟨ret_float H.out, rfl⟩
set_option maxHeartbeats 1000000 in
theorem awake_c (w : World) : Calls Try.prog 9 #[] w fun e w' => e = .returned (.bool true) ∧ Below w.heap.size w w' := by
  have Hz : bitsOf 0 = 0 := by rw [bitsOf_eq]; rfl
  go_enter Try.func9, Try.ntmps9
  go_wp2_with first
    | (go_at_call 15; refine (lun_c _ _).mono ?_; rintro e w1 ⟨rfl, h1⟩; rw [k_lunB, k_lun, if_pos rfl])
    | (go_at_call 12; refine (round_c _ _ (by decide)).mono ?_; rintro e w1 ⟨rfl, rfl⟩; first | rw [k_25, k_r25, if_pos rfl] | rw [k_35, k_r35, if_pos rfl] | rw [k_inf, if_neg (by decide)])
    | (go_at_call 16; refine (phase_c _ _).mono ?_; rintro e w2 ⟨rfl, h2⟩; first | (rw [k_ph]; have ha := h2; clear h2) | (rw [k_phi]; have hb := h2; clear h2))
    | (go_at_call 19; refine (isnan_c _ _).mono ?_; rintro e w1 ⟨rfl, rfl⟩; rw [k_nan])
    | (go_at_call 32; refine (copysign_k _).mono ?_; rintro e w1 ⟨rfl, rfl⟩)
    | (go_at_call 11; refine (before_c _ _ _ (Lib.hid (by decide)) (Lib.hid (by decide))).mono ?_; rintro e w1 ⟨rfl, rfl⟩; first | rw [k_b1] | rw [k_b2])
    | (go_at_call 13; refine (class_c _ _ (by decide)).mono ?_; rintro e w3 ⟨rfl, h3⟩; first | (rw [k_c1]; have hc := h3; clear h3) | (rw [k_c2]; have hd := h3; clear h3))
    | go_in
  go_ret
  exact ⟨rfl, chain (chain (chain (chain h1 ha) hb) hc) hd⟩
end Go.Proofs.Ytbaioodjcjbklaa
