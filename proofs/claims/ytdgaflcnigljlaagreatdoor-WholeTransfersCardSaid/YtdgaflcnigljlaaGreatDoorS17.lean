/-
  Contracts and plain facts for the laws on the whole program: the parts below say each what they are. No further condition.
-/
import Derived.Test.YtdgaflcnigljlaaGreatDoorS09
import Derived.Test.YtdgaflcnigljlaaGreatDoorS10
import Derived.Test.YtdgaflcnigljlaaGreatDoorS16
import Derived.Deep.RegionHeld3
set_option linter.unusedSimpArgs false
/-
  Contracts of references 09 and 10: the paschal full moon, Easter. Years from 1583 to 1000000000. No further condition.
-/
namespace Go.Proofs.YtdgaflcnigljlaaGreatDoor
open Go.RowKit Go.Proofs.YtdgaflcnigljlaaGreatDoorW.PrintWords
set_option linter.unusedVariables false
set_option maxRecDepth 20000 in
set_option maxHeartbeats 1000000 in
theorem rnewm_c (y k : Int) (w : World) (y1 : 1583 ≤ y) (y2 : y ≤ 1000000000) (h0 : 0 ≤ k) (h : k ≤ 28) : Calls Tryz.prog 106 #[.int .i64 2, .agg #[.int .i64 y, .int .i64 (mK k), .int .i64 (dK k)]] w fun e w' => e = .returned (.bool (bearsK k (vLab y))) ∧ Below w.heap.size w w' := by
  obtain ⟨l1, l2⟩ := vLab_in y
  have HB := Lib.hid ((Below.refl w.heap.size w).alloc (Nat.le_refl _) (.cells #[.int .i64 y, .int .i64 (mK k), .int .i64 (dK k)] 39))
  have B0 := Lib.hid (Blk.new w #[.int .i64 y, .int .i64 (mK k), .int .i64 (dK k)] 39)
  go_enter Tryz.func106, Tryz.ntmps106
  go_upto_region 1 with fail
  generalize w.alloc (.cells #[.int .i64 y, .int .i64 (mK k), .int .i64 (dK k)] 39) = W at *
  have hB : Below W.heap.size W W.drew := (Below.refl _ _).drew
  have HC : ∀ V, Below W.heap.size W V → V.cell? ⟨w.heap.size, 0, none⟩ = some (.int .i64 y) ∧ V.cell? ⟨w.heap.size, 1, none⟩ = some (.int .i64 (mK k)) ∧ V.cell? ⟨w.heap.size, 2, none⟩ = some (.int .i64 (dK k)) := fun V h => ⟨(B0.out.below h).cell 0, (B0.out.below h).cell 1, (B0.out.below h).cell 2⟩
  obtain ⟨x0, x1, x2⟩ := HC _ (Below.refl _ _)
  have xl := B0.out.lt
  go_region_held3 (fun w' => w'.cell? ⟨w.heap.size, 0, none⟩ = some (.int .i64 y) ∧ w'.cell? ⟨w.heap.size, 1, none⟩ = some (.int .i64 (mK k)) ∧ w'.cell? ⟨w.heap.size, 2, none⟩ = some (.int .i64 (dK k)))
    (first | (with_reducible exact HC _ hB))
    (first
      | (go_at_call 144; (with_reducible refine (rlabel_c y _ y1 y2).mono ?_); rintro e w1 ⟨rfl, rfl⟩)
      | (go_at_call 143; (with_reducible refine (rbears_c k (vLab y) _ h0 h l1 l2).mono ?_); rintro e w1 ⟨rfl, hb1⟩; (with_reducible replace hB := hB.trans (hb1.mono hB.size))))
  go_wp2_with fail
  go_ret
  exact ⟨rfl, HB.out.trans (hB.mono HB.out.size)⟩
@[reducible] def dC (y m d : Int) : Array Value := #[.int .i64 y, .int .i64 m, .int .i64 d]
structure FmB (w W : World) : Prop where
  bel : Below w.heap.size w W
  res : Blk W w.heap.size (dC 0 0 0) 39
theorem FmB.below {w W W2 : World} (h : FmB w W) (hb : Below W.heap.size W W2) : FmB w W2 := ⟨below_then h.bel h.bel.size hb, h.res.below hb⟩
theorem FmB.alloc {w W : World} (h : FmB w W) (o : Obj) : FmB w (W.alloc o) := h.below ((Below.refl _ _).alloc (Nat.le_refl _) _)
theorem FmB.new (w : World) : FmB w (w.alloc (.cells (dC 0 0 0) 39)) := ⟨(Below.refl _ _).alloc (Nat.le_refl _) _, Blk.new _ _ _⟩
theorem moon_day (y : Int) (h1 : 1583 ≤ y) (h2 : y ≤ 1000000000) : ∃ k : Int, 13 ≤ k ∧ k ≤ 41 ∧ vMoon y = n8 y + k ∧ k = 13 + pK (vLab y) := by
  obtain ⟨l1, l2⟩ := vLab_in y
  obtain ⟨p1, p2⟩ := pK_in l1 l2
  exact ⟨13 + pK (vLab y), by omega, by omega, rfl, rfl⟩
set_option maxRecDepth 20000 in
set_option maxHeartbeats 1000000 in
theorem rfullm_c (y : Int) (w : World) (y1 : 1583 ≤ y) (y2 : y ≤ 1000000000) : Calls Tryz.prog 68 #[.int .i64 2, .int .i64 y] w fun e w' => e = .returned (.agg (dC y (mK (13 + pK (vLab y))) (dK (13 + pK (vLab y))))) ∧ Below w.heap.size w w' := by
  obtain ⟨l1, l2⟩ := vLab_in y
  obtain ⟨p1, p2⟩ := pK_in l1 l2
  have PY := Lib.hid (pK_yes l1 l2)
  have PN := Lib.hid (fun k a b => @pK_no (vLab y) k l1 l2 a b)
  obtain ⟨n1, n2⟩ := n8_in y1 y2
  obtain ⟨v1, v2⟩ := dat y1 y2 (k := 13) (by omega) (by omega)
  have TN := Lib.hid (show vToN y 3 21 = n8 y + 13 by
    have e1 : mK 13 = 3 := by decide
    have e2 : dK 13 = 21 := by decide
    rw [e1, e2] at v1 v2
    unfold vToN; rw [if_pos v1, v2])
  have DF := Lib.hid (fun k a b => @dat_from y k y1 y2 a b)
  have HF := Lib.hid ((FmB.new w).alloc (.cells (dC y 3 21) 39))
  clear v1 v2 l1 l2
  generalize pK (vLab y) = K at *
  go_enter Tryz.func68, Tryz.ntmps68
  go_wp2_with (first | (go_at_call 67; with_reducible refine (rto5_c _ _ _ _).mono ?_; rintro e w1 ⟨rfl, hw⟩; rw [TN.out]; replace HF := Lib.hid (HF.out.below hw); clear hw))
  go_loopw [6, 8] (fun n i wr => ∃ k : Int, 0 ≤ k ∧ k ≤ K ∧ i = .int .i64 k ∧ n = .int .i64 (n8 y + 13 + k) ∧ Hid (FmB w wr)) (fun _ i _ => (40 - intOf i).toNat)
  case atStart => exact ⟨0, by omega, by omega, rfl, by simp, HF⟩
  case round =>
    clear HF
    obtain ⟨k, k0, k1, rfl, rfl, HF⟩ := hrel
    obtain ⟨q1, q2, q3, q4⟩ := DF.out k k0 (by omega)
    have Q := Lib.hid (show vDayOk (n8 y + 13 + k - 13) = true ∧ vYear (n8 y + 13 + k - 13) = y ∧ mMon (n8 y + 13 + k - 13) = mK k ∧ mDay (n8 y + 13 + k - 13) = dK k by
      rw [show n8 y + 13 + k - 13 = n8 y + k by omega]; exact ⟨q1, q2, q3, q4⟩)
    clear q1 q2 q3 q4
    by_cases hk : k < K
    · have NO := Lib.hid (PN.out k k0 hk)
      go_wp2_with (first | (go_at_call 40; with_reducible refine (rfrom5_c _ _ Q.out.1).mono ?_; rintro e w1 ⟨rfl, hw⟩; rw [Q.out.2.1, Q.out.2.2.1, Q.out.2.2.2]; replace HF := Lib.hid ((HF.out.below hw).alloc (.cells (dC y (mK k) (dK k)) 39)); clear hw) | (go_at_call 106; with_reducible refine (rnewm_c y k _ y1 y2 k0 (by omega)).mono ?_; rintro e w2 ⟨rfl, hw⟩; rw [NO.out]; replace HF := Lib.hid (HF.out.below hw); clear hw))
      exact ⟨⟨k + 1, by omega, by omega, rfl, by simp; omega, HF⟩, by simp [intOf]; omega⟩
    · obtain rfl : k = K := by omega
      obtain ⟨q1, q2, q3, q4⟩ := DF.out (13 + k) (by omega) (by omega)
      have Q2 := Lib.hid (show vDayOk (n8 y + 13 + k) = true ∧ vYear (n8 y + 13 + k) = y ∧ mMon (n8 y + 13 + k) = mK (13 + k) ∧ mDay (n8 y + 13 + k) = dK (13 + k) by
        rw [show n8 y + 13 + k = n8 y + (13 + k) by omega]; exact ⟨q1, q2, q3, q4⟩)
      clear q1 q2 q3 q4
      go_wp2_with (first | (go_at_call 40; with_reducible refine (rfrom5_c _ _ Q.out.1).mono ?_; rintro e w1 ⟨rfl, hw⟩; rw [Q.out.2.1, Q.out.2.2.1, Q.out.2.2.2]; replace HF := Lib.hid ((HF.out.below hw).alloc (.cells (dC y (mK k) (dK k)) 39)); clear hw) | (go_at_call 106; with_reducible refine (rnewm_c y k _ y1 y2 k0 (by omega)).mono ?_; rintro e w2 ⟨rfl, hw⟩; rw [PY.out]; replace HF := Lib.hid (HF.out.below hw); clear hw) | (go_at_call 40; with_reducible refine (rfrom5_c _ _ Q2.out.1).mono ?_; rintro e w3 ⟨rfl, hw⟩; rw [Q2.out.2.1, Q2.out.2.2.1, Q2.out.2.2.2]; replace HF := Lib.hid ((HF.out.below hw).alloc (.cells (dC y (mK (13 + k)) (dK (13 + k))) 39)); clear hw; have r0 := Blk.cell (FmB.res HF.out) 0; have r1 := Blk.cell (FmB.res HF.out) 1; have r2 := Blk.cell (FmB.res HF.out) 2; have f0 := Blk.frozen (FmB.res HF.out) 0; have f1 := Blk.frozen (FmB.res HF.out) 1; have f2 := Blk.frozen (FmB.res HF.out) 2))
      refine bodyPost_ret (results_cell_row rfl _ _ w.heap.size 39 (dC y (mK (13 + k)) (dK (13 + k))) (0, 0) _ rfl (((HF.out.res.put 0 _ rfl).put 1 _ rfl).put 2 _ rfl) Tryz.underlying39 rfl (by kernel_rfl)) rfl ?_
      exact ⟨rfl, ((HF.out.bel.setCell (Nat.le_refl _) _).setCell (Nat.le_refl _) _).setCell (Nat.le_refl _) _⟩
theorem eas_mod (y : Int) : vEas y % 7 = 0 ∧ vMoon y + 1 ≤ vEas y ∧ vEas y ≤ vMoon y + 7 ∧ ∀ x, vMoon y + 1 ≤ x → x < vEas y → ¬ x % 7 = 0 := by
  unfold vEas
  generalize vMoon y = m
  exact ⟨by omega, by omega, by omega, fun x a b => by omega⟩
set_option maxRecDepth 20000 in
set_option maxHeartbeats 1000000 in
theorem reday_c (y : Int) (w : World) (y1 : 1583 ≤ y) (y2 : y ≤ 1000000000) : Calls Tryz.prog 41 #[.int .i64 2, .int .i64 y] w fun e w' => e = .returned (.int .i64 (vEas y)) ∧ Below w.heap.size w w' := by
  obtain ⟨l1, l2⟩ := vLab_in y
  obtain ⟨p1, p2⟩ := pK_in l1 l2
  obtain ⟨m1, m2⟩ := vMoon_in y1 y2
  obtain ⟨v1, v2⟩ := dat y1 y2 (k := 13 + pK (vLab y)) (by omega) (by omega)
  have TN := Lib.hid (show vToN y (mK (13 + pK (vLab y))) (dK (13 + pK (vLab y))) = vMoon y by unfold vToN; rw [if_pos v1, v2]; rfl)
  have HB := Below.refl w.heap.size w
  obtain ⟨e1, e2, e3, e4⟩ := eas_mod y
  have E4 := Lib.hid e4
  clear v1 v2 e4
  go_enter Tryz.func41, Tryz.ntmps41
  go_wp2_with (first | (go_at_call 68; with_reducible refine (rfullm_c _ _ y1 y2).mono ?_; rintro e w1 ⟨rfl, hw⟩; replace HB := below_then HB HB.size hw; clear hw) | (go_at_call 67; with_reducible refine (rto5_c _ _ _ _).mono ?_; rintro e w2 ⟨rfl, hw⟩; rw [TN.out]; replace HB := below_then HB HB.size hw; clear hw))
  go_loop [5] (fun n => ∃ x : Int, vMoon y + 1 ≤ x ∧ x ≤ vEas y ∧ n = .int .i64 x) (fun n => (vEas y - intOf n).toNat)
  case atStart => exact ⟨vMoon y + 1, by omega, by omega, by go_num⟩
  case round =>
    obtain ⟨x, x1, x2, rfl⟩ := hrel
    by_cases hx : x = vEas y
    · subst hx
      have b0 : (vEas y % 7 != 0) = false := by simp [e1]
      go_wp2_with ((go_at_call 38; with_reducible refine (rof_c _ _ (by omega) (by omega)).mono ?_; rintro e w3 ⟨rfl, rfl⟩))
      go_ret
      exact ⟨rfl, HB⟩
    · have hl : x < vEas y := by omega
      have b0 : (x % 7 != 0) = true := by rw [bne_iff_ne]; exact E4.out x x1 hl
      go_wp2_with ((go_at_call 38; with_reducible refine (rof_c _ _ (by omega) (by omega)).mono ?_; rintro e w3 ⟨rfl, rfl⟩))
      exact ⟨⟨x + 1, by omega, by omega, by go_num⟩, by simp [intOf]; omega⟩
set_option maxRecDepth 20000 in
set_option maxHeartbeats 1000000 in
theorem redate_c (y : Int) (w : World) (y1 : 1583 ≤ y) (y2 : y ≤ 1000000000) : Calls Tryz.prog 18 #[.int .i64 2, .int .i64 y] w fun e w' => e = .returned (.agg (dC (vYear (vEas y)) (mMon (vEas y)) (mDay (vEas y)))) ∧ Below w.heap.size w w' := by
  obtain ⟨m1, m2⟩ := vMoon_in y1 y2
  obtain ⟨e1, e2, e3, e4⟩ := eas_mod y
  have hd : vDayOk (vEas y) = true := vDayOk_iff.2 (by have := eas_bd (y := y); have := vFirst_succ y; have := vFirst_bd (y := y) (by omega) (by omega); have := vFirst_bd (y := y + 1) (by omega) (by omega); omega)
  have HF := Lib.hid (FmB.new w)
  clear e4
  go_enter Tryz.func18, Tryz.ntmps18
  go_wp2_with (first | (go_at_call 41; with_reducible refine (reday_c _ _ y1 y2).mono ?_; rintro e w1 ⟨rfl, hw⟩; replace HF := Lib.hid (HF.out.below hw); clear hw) | (go_at_call 40; with_reducible refine (rfrom5_c _ _ hd).mono ?_; rintro e w3 ⟨rfl, hw⟩; replace HF := Lib.hid ((HF.out.below hw).alloc (.cells (dC (vYear (vEas y)) (mMon (vEas y)) (mDay (vEas y))) 39)); clear hw; have r0 := Blk.cell (FmB.res HF.out) 0; have r1 := Blk.cell (FmB.res HF.out) 1; have r2 := Blk.cell (FmB.res HF.out) 2; have f0 := Blk.frozen (FmB.res HF.out) 0; have f1 := Blk.frozen (FmB.res HF.out) 1; have f2 := Blk.frozen (FmB.res HF.out) 2))
  refine bodyPost_ret (results_cell_row rfl _ _ w.heap.size 39 (dC (vYear (vEas y)) (mMon (vEas y)) (mDay (vEas y))) (0, 0) _ rfl (((HF.out.res.put 0 _ rfl).put 1 _ rfl).put 2 _ rfl) Tryz.underlying39 rfl (by kernel_rfl)) rfl ?_
  exact ⟨rfl, ((HF.out.bel.setCell (Nat.le_refl _) _).setCell (Nat.le_refl _) _).setCell (Nat.le_refl _) _⟩
end Go.Proofs.YtdgaflcnigljlaaGreatDoor
/-
  Contracts of reference 16: anchors, for all values. No further condition.
-/
namespace Go.Proofs.YtdgaflcnigljlaaGreatDoor
open Go.RowKit Go.Proofs.YtdgaflcnigljlaaGreatDoorW.PrintWords
set_option linter.unusedVariables false
theorem ofy_in {m d : Int} (a : 1 ≤ d) (b : d ≤ vLen false m) : 1 ≤ doyC m d ∧ doyC m d ≤ 365 := by
  have := fix_bd (y := 2001) a b
  omega
set_option maxHeartbeats 400000 in
theorem rofy_c (m d : Int) (w : World) (a : 1 ≤ d) (b : d ≤ vLen false m) : Calls Tryz.prog 45 #[.int .i64 m, .int .i64 d] w fun e w' => e = .returned (.int .i64 (doyC m d)) ∧ Below w.heap.size w w' := by
  have V := exists_valid (y := 2001) (m := m) (by omega) (by omega) a b
  have N := Lib.hid (show vToN 2001 m d = vTo 2001 m d by unfold vToN; rw [if_pos V])
  obtain ⟨q1, q2⟩ := ofy_in a b
  have T := Lib.hid (vTo2001 m d)
  obtain ⟨f1, f2⟩ := vFirst_bd (y := 2001) (by omega) (by omega)
  have F := Lib.hid (show vTo 2001 m d = vFirst 2001 + (doyC m d - 1) by have := vTo2001 m d; omega)
  generalize doyC m d = D1 at *
  obtain ⟨F1, hF⟩ : ∃ F1, vFirst 2001 = F1 := ⟨_, rfl⟩
  rw [hF] at f1 f2 F
  have HF := Lib.hid hF
  clear hF T
  go_enter Tryz.func45, Tryz.ntmps45
  go_wp2_with (first | (go_at_call 14; with_reducible refine (rto_c _ _ _ _).mono ?_; rintro e w1 ⟨rfl, hw⟩; rw [N.out, F.out]) | (go_at_call 11; with_reducible refine (rfirst_c _ _ (by omega) (by omega)).mono ?_; rintro e w1 ⟨rfl, rfl⟩; rw [HF.out]))
  go_ret
  exact ⟨ret_int (by omega), hw⟩
noncomputable def pB (p : Prop) : Bool := @decide p (Classical.propDecidable p)
theorem pB_t {p : Prop} (h : p) : pB p = true := @decide_eq_true p (Classical.propDecidable p) h
theorem pB_f {p : Prop} (h : ¬ p) : pB p = false := @decide_eq_false p (Classical.propDecidable p) h
theorem pB_iff {p : Prop} : pB p = true ↔ p := ⟨fun h => @of_decide_eq_true p (Classical.propDecidable p) h, pB_t⟩
theorem ret_pB {b : Bool} {p : Prop} (h : b = true ↔ p) : Ending.returned (.bool b) = .returned (.bool (pB p)) := by
  rw [show b = pB p by rw [Bool.eq_iff_iff, h, pB_iff]]
theorem Blk.c6' {w : World} {g : Nat} {a b c d e f : Value} {t : TypeId} (h : Blk w g #[a, b, c, d, e, f] t) : (w.cell? ⟨g, 0, none⟩ = some a ∧ w.cell? ⟨g, 1, none⟩ = some b ∧ w.cell? ⟨g, 2, none⟩ = some c ∧ w.cell? ⟨g, 3, none⟩ = some d ∧ w.cell? ⟨g, 4, none⟩ = some e ∧ w.cell? ⟨g, 5, none⟩ = some f) ∧ g < w.heap.size :=
  ⟨⟨h.cell 0, h.cell 1, h.cell 2, h.cell 3, h.cell 4, h.cell 5⟩, h.lt⟩
@[reducible] def aC (k m d o wd c : Int) : Array Value := #[.int .i64 k, .int .i64 m, .int .i64 d, .int .i64 o, .int .i64 wd, .int .i64 c]
theorem anc2 {k m d o wd c : Int} (h : k = 2) : AncOk k m d o wd c ↔ (m = 0 ∧ d = 0 ∧ wd = 0 ∧ c = 0 ∧ -80 ≤ o ∧ o ≤ 250) := by unfold AncOk; omega
theorem anc1 {k m d o wd c : Int} (h : k ≠ 2) (e : ¬ (1 ≤ d ∧ d ≤ vLen false m)) : ¬ AncOk k m d o wd c := by unfold AncOk NthOk; omega
theorem anc3 {k m d o wd c : Int} (h : k ≠ 2) (e : 1 ≤ d ∧ d ≤ vLen false m) : AncOk k m d o wd c ↔ (o = 0 ∧ ((k = 1 ∧ wd = 0 ∧ c = 0) ∨ (k = 3 ∧ 0 ≤ wd ∧ wd ≤ 6 ∧ ((1 ≤ c ∧ c ≤ 8 ∧ doyC m d + 7 * c - 1 ≤ 365) ∨ (-8 ≤ c ∧ c ≤ -1 ∧ 1 ≤ doyC m d + 7 * c + 1))))) := by unfold AncOk NthOk; omega
set_option maxRecDepth 20000 in
set_option maxHeartbeats 1000000 in
theorem rchk_c (k m d o wd c : Int) (w : World) : Calls Tryz.prog 22 #[.agg (aC k m d o wd c)] w fun e w' => e = .returned (.bool (pB (AncOk k m d o wd c))) ∧ Below w.heap.size w w' := by
  have HB := Lib.hid ((Below.refl w.heap.size w).alloc (Nat.le_refl _) (.cells (aC k m d o wd c) 59))
  have B0 := Lib.hid (Blk.new w (aC k m d o wd c) 59)
  have FF := Lib.hid (fun b : Bool => show (b = true ↔ AncOk k m d o wd c) → Ending.returned (.bool b) = .returned (.bool (pB (AncOk k m d o wd c))) from fun h => ret_pB h)
  by_cases hk : k = 2
  · have A := Lib.hid (anc2 (m := m) (d := d) (o := o) (wd := wd) (c := c) hk)
    have e0 : (k == 2) = true := by simpa using hk
    clear hk
    go_enter Tryz.func22, Tryz.ntmps22
    go_wp2
    all_goals
      subst_vars
      go_ret
      exact ⟨FF.out _ (by rw [A.out]; (try simp); (try omega)), HB.out⟩
  · have e0 : (k == 2) = false := by simpa using hk
    by_cases hx : 1 ≤ d ∧ d ≤ vLen false m
    · have A := Lib.hid (anc3 (o := o) (wd := wd) (c := c) hk hx)
      obtain ⟨x1, x2⟩ := hx
      have EX := Lib.hid (show decide (1 ≤ d ∧ d ≤ vLen false m) = true by simp [x1, x2])
      obtain ⟨q1, q2⟩ := ofy_in x1 x2
      have OF := Lib.hid (fun w => rofy_c m d w x1 x2)
      clear x1 x2 hk
      generalize doyC m d = D1 at *
      have ⟨⟨a0, a1, a2, a3, a4, a5⟩, alt⟩ := Blk.c6' B0.out
      go_enter Tryz.func22, Tryz.ntmps22
      go_wp2_with (first | (go_at_call 44; with_reducible refine (rexists_c _ _ _).mono ?_; rintro e w1 ⟨rfl, rfl⟩; rw [EX.out]) | (go_at_call 45; with_reducible refine (OF.out _).mono ?_; rintro e w1 ⟨rfl, hw⟩; replace B0 := Lib.hid (B0.out.below hw); replace HB := Lib.hid (below_then HB.out HB.out.size hw); clear hw a0 a1 a2 a3 a4 a5 alt; have ⟨⟨a0, a1, a2, a3, a4, a5⟩, alt⟩ := Blk.c6' B0.out))
      all_goals
        subst_vars
        go_ret
        refine ⟨FF.out _ ?_, HB.out⟩
        have AA := A.out
        clear FF A B0 HB OF EX a0 a1 a2 a3 a4 a5 alt
        rw [AA]
        simp only [bne_iff_ne, bne_eq_false_iff_eq, beq_iff_eq, beq_eq_false_iff_ne, ne_eq] at *
        (try simp)
        (try omega)
    · have A := Lib.hid (anc1 (o := o) (wd := wd) (c := c) hk hx)
      have EX := Lib.hid (show decide (1 ≤ d ∧ d ≤ vLen false m) = false by simpa using hx)
      clear hx hk
      go_enter Tryz.func22, Tryz.ntmps22
      go_wp2_with ((go_at_call 44; with_reducible refine (rexists_c _ _ _).mono ?_; rintro e w1 ⟨rfl, rfl⟩; rw [EX.out]))
      go_ret
      exact ⟨FF.out _ (by simp [A.out]), HB.out⟩
theorem anc_nth {y m d wd c : Int} (h : NthOk m d wd c) (y1 : 1583 ≤ y) (y2 : y ≤ 1000000000) : vNthE (vTo y m d) wd c = 0 ∧ vToN y m d = vTo y m d := by
  obtain ⟨h1, h2, h3, h4, h5⟩ := h
  have v := exists_valid (y := y) (m := m) (by omega) y2 h1 h2
  obtain ⟨t1, t2⟩ := to_in v
  exact ⟨nth_err (n := vTo y m d) (c := c) h3 h4 (by omega) (by omega) (by omega) (by omega) (by omega), by unfold vToN; rw [if_pos v]⟩
set_option maxRecDepth 20000 in
set_option maxHeartbeats 1000000 in
theorem raday_c (y k m d o wd c : Int) (w : World) (y1 : 1583 ≤ y) (y2 : y ≤ 1000000000) (h : AncOk k m d o wd c) : Calls Tryz.prog 25 #[.agg (aC k m d o wd c), .int .i64 y] w fun e w' => e = .returned (.int .i64 (vAnc y k m d o wd c)) ∧ Below w.heap.size w w' := by
  have HB := Lib.hid ((Below.refl w.heap.size w).alloc (Nat.le_refl _) (.cells (aC k m d o wd c) 59))
  have B0 := Lib.hid (Blk.new w (aC k m d o wd c) 59)
  have ⟨⟨a0, a1, a2, a3, a4, a5⟩, alt⟩ := Blk.c6' B0.out
  rcases h with ⟨rfl, d1, d2, rfl, rfl, rfl⟩ | ⟨rfl, rfl, rfl, rfl, rfl, o1, o2⟩ | ⟨rfl, rfl, hn⟩
  · have V := exists_valid (y := y) (m := m) (by omega) y2 d1 d2
    have N := Lib.hid (show vToN y m d = vTo y m d by unfold vToN; rw [if_pos V])
    have R := Lib.hid (show vTo y m d = vAnc y 1 m d 0 0 0 from rfl)
    go_enter Tryz.func25, Tryz.ntmps25
    go_wp2_with ((go_at_call 14; with_reducible refine (rto_c _ _ _ _).mono ?_; rintro e w1 ⟨rfl, hw⟩; rw [N.out]; replace B0 := Lib.hid (B0.out.below hw); replace HB := Lib.hid (below_then HB.out HB.out.size hw); clear hw a0 a1 a2 a3 a4 a5 alt; have ⟨⟨a0, a1, a2, a3, a4, a5⟩, alt⟩ := Blk.c6' B0.out))
    go_ret
    exact ⟨ret_int R.out, HB.out⟩
  · have R := Lib.hid (show vEas y + o = vAnc y 2 0 0 o 0 0 from rfl)
    obtain ⟨e1, e2⟩ := vEas_in y1 y2
    go_enter Tryz.func25, Tryz.ntmps25
    go_upto_region 2 with fail
    generalize w.alloc (.cells (aC 2 0 0 o 0 0) 59) = W at *
    have hB : Below W.heap.size W W.drew := (Below.refl _ _).drew
    have HC : ∀ V, Below W.heap.size W V → V.cell? ⟨w.heap.size, 3, none⟩ = some (.int .i64 o) := fun V h => (B0.out.below h).cell 3
    have HB2 := HB.out
    clear a0 a1 a2 a4 a5
    go_region_held3 (fun w' => w'.cell? ⟨w.heap.size, 3, none⟩ = some (.int .i64 o))
      (first | (with_reducible exact HC _ hB))
      (first
        | (go_at_call 41; (with_reducible refine (reday_c y _ y1 y2).mono ?_); rintro e w1 ⟨rfl, hb1⟩; (with_reducible replace hB := hB.trans (hb1.mono hB.size))))
    go_wp2_with fail
    go_ret
    exact ⟨ret_int (by rw [IntWalk.i64_in _ (by omega)]; exact R.out), HB2.trans (hB.mono HB2.size)⟩
  · obtain ⟨N1, N2⟩ := anc_nth hn y1 y2
    have N := Lib.hid N2
    have E := Lib.hid N1
    have R := Lib.hid (show vNth (vTo y m d) wd c = vAnc y 3 m d 0 wd c from rfl)
    go_enter Tryz.func25, Tryz.ntmps25
    go_wp2_with (first | (go_at_call 14; with_reducible refine (rto_c _ _ _ _).mono ?_; rintro e w1 ⟨rfl, hw⟩; rw [N.out]; replace B0 := Lib.hid (B0.out.below hw); replace HB := Lib.hid (below_then HB.out HB.out.size hw); clear hw a0 a1 a2 a3 a4 a5 alt; have ⟨⟨a0, a1, a2, a3, a4, a5⟩, alt⟩ := Blk.c6' B0.out) | (go_at_call 48; with_reducible refine (rnth_c _ _ _ _).mono ?_; rintro e w2 ⟨rfl, rfl⟩))
    go_ret
    exact ⟨ret_int R.out, HB.out⟩
end Go.Proofs.YtdgaflcnigljlaaGreatDoor
/-
  Contracts of reference 17: well-formed catalogues. At all catalogues of few seasons and feasts. No further condition.
-/
namespace Go.Proofs.YtdgaflcnigljlaaGreatDoor
open Go.RowKit Go.Proofs Go.Proofs.YtdgaflcnigljlaaGreatDoorW.PrintWords
set_option linter.unusedVariables false
def IdAt (s : ByteArray) (i : Nat) : Prop := (97 ≤ bt s i ∧ bt s i ≤ 122) ∨ (48 ≤ bt s i ∧ bt s i ≤ 57 ∧ 0 < i) ∨ (bt s i = 45 ∧ 0 < i ∧ i + 1 < s.size ∧ bt s (i - 1 : Nat) ≠ 45)
theorem idok_iff (s : ByteArray) : IdOk s ↔ (1 ≤ s.size ∧ s.size ≤ 40) ∧ ∀ i : Nat, i < s.size → IdAt s i := by unfold IdOk IdAt; exact ⟨fun h => ⟨⟨h.1, h.2.1⟩, h.2.2⟩, fun h => ⟨h.1.1, h.1.2, h.2⟩⟩
set_option maxRecDepth 20000 in
set_option maxHeartbeats 1000000 in
theorem rident_c (s : ByteArray) (w : World) : Calls Tryz.prog 70 #[.string s] w fun e w' => e = .returned (.bool (pB (IdOk s))) ∧ w = w' := by
  have FF := Lib.hid (fun b : Bool => show (b = true ↔ IdOk s) → Ending.returned (.bool b) = .returned (.bool (pB (IdOk s))) from fun h => ret_pB h)
  by_cases hs : 1 ≤ s.size ∧ s.size ≤ 40
  · obtain ⟨s1, s2⟩ := hs
    have b1 : decide ((s.size : Int) < 1) = false := by simp; omega
    have b2 : decide (40 < (s.size : Int)) = false := by simp; omega
    go_enter Tryz.func70, Tryz.ntmps70
    go_wp2
    go_loop [3] (fun i => ∃ k : Nat, k ≤ s.size ∧ i = .int .i64 k ∧ Hid (∀ j : Nat, j < k → IdAt s j)) (fun i => (s.size - intOf i).toNat)
    case atStart => exact ⟨0, by omega, rfl, Lib.hid (fun j h => by omega)⟩
    case round =>
      obtain ⟨k, k1, rfl, H⟩ := hrel
      by_cases hk : k < s.size
      · have hk' : (k : Int) < s.size := by omega
        have BE : ((s[k]'hk).toNat : Int) = bt s k := by have := bt_at s (k : Int) (by simpa using hk); simpa using this
        have BE1 : ∀ h : k - 1 < s.size, ((s[k - 1]'h).toNat : Int) = bt s (k - 1 : Nat) := fun h => by
          have := bt_at s ((k - 1 : Nat) : Int) (by simpa using h)
          simpa only [Int.toNat_natCast] using this
        have IY := Lib.hid (fun h : IdAt s k => show ∀ j : Nat, j < k + 1 → IdAt s j from fun j hj => by
          by_cases e : j = k
          · subst e; exact h
          · exact H.out j (by omega))
        have IN := Lib.hid (fun h : ¬ IdAt s k => show ¬ IdOk s from fun g => h (((idok_iff s).1 g).2 k hk))
        have HE := Lib.hid BE
        have HE1 := Lib.hid BE1
        clear BE BE1
        go_wp2
        all_goals
          have BE := HE.out
          have BE1 := HE1.out
          simp only [BE, BE1, beq_iff_eq, beq_eq_false_iff_ne, ne_eq] at *
          first
            | (refine ⟨⟨k + 1, by omega, by go_num, Lib.hid (IY.out ?_)⟩, by simp [intOf]; omega⟩; unfold IdAt; omega)
            | (go_ret; exact ⟨FF.out _ (by simp only [Bool.false_eq_true, false_iff]; refine IN.out ?_; unfold IdAt; omega), rfl⟩)
      · obtain rfl : k = s.size := by omega
        go_wp2
        go_ret
        exact ⟨FF.out _ (by rw [idok_iff]; simp; exact ⟨⟨s1, s2⟩, H.out⟩), rfl⟩
  · have FN := Lib.hid (show ¬ IdOk s from fun h => hs ⟨h.1, h.2.1⟩)
    have hs2 : (s.size : Int) < 1 ∨ 40 < (s.size : Int) := by omega
    clear hs
    go_enter Tryz.func70, Tryz.ntmps70
    go_wp2
    all_goals first
      | (go_ret; exact ⟨FF.out _ (by simp only [Bool.false_eq_true, false_iff]; exact FN.out), rfl⟩)
      | (exfalso; simp at *; omega)
theorem sea_ok_iff (s : Sea) : s.Ok ↔ (IdOk s.id ∧ 1 ≤ s.sun ∧ s.sun ≤ 9 ∧ 1 ≤ s.wk ∧ s.wk ≤ 9 ∧ AncOk s.st.k s.st.m s.st.d s.st.o s.st.wd s.st.c) := ⟨fun h => ⟨h.id, h.s1, h.s2, h.w1, h.w2, h.st⟩, fun h => ⟨h.1, h.2.1, h.2.2.1, h.2.2.2.1, h.2.2.2.2.1, h.2.2.2.2.2⟩⟩
theorem fea_ok_iff (s : Fea) : s.Ok ↔ (IdOk s.id ∧ 1 ≤ s.rank ∧ s.rank ≤ 9 ∧ 1 ≤ s.pol ∧ s.pol ≤ 3 ∧ AncOk s.at_.k s.at_.m s.at_.d s.at_.o s.at_.wd s.at_.c) := ⟨fun h => ⟨h.id, h.r1, h.r2, h.p1, h.p2, h.at_⟩, fun h => ⟨h.1, h.2.1, h.2.2.1, h.2.2.2.1, h.2.2.2.2.1, h.2.2.2.2.2⟩⟩
set_option maxRecDepth 20000 in
set_option maxHeartbeats 1000000 in
theorem rsea_c (s : Sea) (w : World) : Calls Tryz.prog 46 #[.agg s.cells] w fun e w' => e = .returned (.bool (pB s.Ok)) ∧ Below w.heap.size w w' := by
  have HB := Lib.hid ((Below.refl w.heap.size w).alloc (Nat.le_refl _) (.cells s.cells 67))
  have B0 := Lib.hid (Blk.new w s.cells 67)
  have FF := Lib.hid (fun b : Bool => show (b = true ↔ _) → Ending.returned (.bool b) = .returned (.bool (pB s.Ok)) from fun h => ret_pB (h.trans (sea_ok_iff s).symm))
  obtain ⟨id, a, b, ⟨k, m, d, o, wd, c⟩⟩ := s
  simp only [Sea.cells] at *
  have ⟨⟨a0, a1, a2, a3, a4, a5, a6, a7, a8⟩, blt⟩ := Blk.c9 B0.out
  have hi := @pB_iff (IdOk id)
  have ha := @pB_iff (AncOk k m d o wd c)
  have RI := Lib.hid (fun w => rident_c id w)
  have RA := Lib.hid (fun w => rchk_c k m d o wd c w)
  cases h1 : pB (IdOk id)
  · rw [h1] at hi RI
    have HI := Lib.hid hi
    clear hi h1 ha
    go_enter Tryz.func46, Tryz.ntmps46
    go_wp2_with ((go_at_call 70; with_reducible refine (RI.out _).mono ?_; rintro e w1 ⟨rfl, rfl⟩))
    go_ret
    exact ⟨FF.out _ (by have := HI.out; simp only [Bool.false_eq_true, false_iff] at *; exact fun h => this h.1), HB.out⟩
  · rw [h1] at hi RI
    have HI := Lib.hid hi
    clear hi h1
    cases h2 : pB (AncOk k m d o wd c)
    all_goals
      rw [h2] at ha RA
      have HA := Lib.hid ha
      clear ha h2
      go_enter Tryz.func46, Tryz.ntmps46
      go_wp2_with (first | (go_at_call 70; with_reducible refine (RI.out _).mono ?_; rintro e w1 ⟨rfl, rfl⟩) | (go_at_call 22; with_reducible refine (RA.out _).mono ?_; rintro e w1 ⟨rfl, hw⟩; replace HB := Lib.hid (below_then HB.out HB.out.size hw); clear hw))
      all_goals
        go_ret
        refine ⟨FF.out _ ?_, HB.out⟩
        have h1 := HI.out
        have h2 := HA.out
        clear FF HI HA RI RA B0 HB
        simp only [Bool.false_eq_true, false_iff, true_iff, iff_true, iff_false] at *
        (try simp only [h1, h2, true_and, and_true, and_false, not_false_eq_true])
        (try simp)
        (try omega)
set_option maxRecDepth 20000 in
set_option maxHeartbeats 1000000 in
theorem rfea_c (s : Fea) (w : World) : Calls Tryz.prog 47 #[.agg s.cells] w fun e w' => e = .returned (.bool (pB s.Ok)) ∧ Below w.heap.size w w' := by
  have HB := Lib.hid ((Below.refl w.heap.size w).alloc (Nat.le_refl _) (.cells s.cells 63))
  have B0 := Lib.hid (Blk.new w s.cells 63)
  have FF := Lib.hid (fun b : Bool => show (b = true ↔ _) → Ending.returned (.bool b) = .returned (.bool (pB s.Ok)) from fun h => ret_pB (h.trans (fea_ok_iff s).symm))
  obtain ⟨id, a, b, ⟨k, m, d, o, wd, c⟩⟩ := s
  simp only [Fea.cells] at *
  have ⟨⟨a0, a1, a2, a3, a4, a5, a6, a7, a8⟩, blt⟩ := Blk.c9 B0.out
  have hi := @pB_iff (IdOk id)
  have ha := @pB_iff (AncOk k m d o wd c)
  have RI := Lib.hid (fun w => rident_c id w)
  have RA := Lib.hid (fun w => rchk_c k m d o wd c w)
  cases h1 : pB (IdOk id)
  · rw [h1] at hi RI
    have HI := Lib.hid hi
    clear hi h1 ha
    go_enter Tryz.func47, Tryz.ntmps47
    go_wp2_with ((go_at_call 70; with_reducible refine (RI.out _).mono ?_; rintro e w1 ⟨rfl, rfl⟩))
    go_ret
    exact ⟨FF.out _ (by have := HI.out; simp only [Bool.false_eq_true, false_iff] at *; exact fun h => this h.1), HB.out⟩
  · rw [h1] at hi RI
    have HI := Lib.hid hi
    clear hi h1
    cases h2 : pB (AncOk k m d o wd c)
    all_goals
      rw [h2] at ha RA
      have HA := Lib.hid ha
      clear ha h2
      go_enter Tryz.func47, Tryz.ntmps47
      go_wp2_with (first | (go_at_call 70; with_reducible refine (RI.out _).mono ?_; rintro e w1 ⟨rfl, rfl⟩) | (go_at_call 22; with_reducible refine (RA.out _).mono ?_; rintro e w1 ⟨rfl, hw⟩; replace HB := Lib.hid (below_then HB.out HB.out.size hw); clear hw))
      all_goals
        go_ret
        refine ⟨FF.out _ ?_, HB.out⟩
        have h1 := HI.out
        have h2 := HA.out
        clear FF HI HA RI RA B0 HB
        simp only [Bool.false_eq_true, false_iff, true_iff, iff_true, iff_false] at *
        (try simp only [h1, h2, true_and, and_true, and_false, not_false_eq_true])
        (try simp)
        (try omega)
end Go.Proofs.YtdgaflcnigljlaaGreatDoor
