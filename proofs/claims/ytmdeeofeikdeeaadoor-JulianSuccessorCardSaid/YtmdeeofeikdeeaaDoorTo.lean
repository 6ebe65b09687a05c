/-
  Contracts of Valid and ToDay, of the program and of the reference, for all dates, wherever the table of lengths lies in memory as the program text lays it.
-/
import Derived.Test.YtmdeeofeikdeeaaDoorBase2
namespace Go.Proofs.YtmdeeofeikdeeaaDoor
open Go.RowKit
set_option linter.unusedVariables false
theorem flip {P : Program} {f : FuncId} {args : Array Value} {w : World} {v : Value} (h : Calls P f args w fun e w' => e = .returned v ∧ w = w') : Calls P f args w fun e w' => e = .returned v ∧ w' = w := h.mono fun _ _ ⟨a, b⟩ => ⟨a, b.symm⟩
theorem vValid_no1 {y m d : Int} (h : vIn y = false) : vValid y m d = false := by simp [vValid, h]
theorem vValid_no2 {y m d : Int} (h : d < 1) : vValid y m d = false := by simp [vValid]; omega
theorem vValid_at {y m d : Int} (h : vIn y = true) (g : 1 ≤ d) : vValid y m d = decide (d ≤ vLen (vLeap y) m) := by simp [vValid, h, g]

set_option maxHeartbeats 400000 in
theorem valid_c (y m d : Int) (w : World) (hn : Hid (LensIn w)) : Calls Tryd.prog 21 #[.agg #[.int .i64 y, .int .i64 m, .int .i64 d]] w fun e w' => e = .returned (.bool (vValid y m d)) ∧ Below w.heap.size w w' := by
  cases hy : vIn y
  · have HV := Lib.hid (vValid_no1 (m := m) (d := d) hy)
    have HY := Lib.hid hy
    clear hy
    go_enter Tryd.func21, Tryd.ntmps21
    go_wp2_with fail
    go_quiet ((go_at_call 25; exact Calls.quiet_of_same (HY.out ▸ flip (inrange_c _ _))))
    go_wp2_with fail
    go_ret
    exact ⟨ret_bool HV.out.symm, below_drewN ((Below.refl _ _).alloc (Nat.le_refl _) _) _⟩
  · have HY := Lib.hid hy
    by_cases hd : 1 ≤ d
    · have HV := Lib.hid (vValid_at (m := m) hy hd)
      clear hy
      go_enter Tryd.func21, Tryd.ntmps21
      go_wp2_with fail
      go_quiet (first | (go_at_call 25; exact Calls.quiet_of_same (HY.out ▸ flip (inrange_c _ _))) | (go_at_call 19; exact Calls.quiet_of_same (flip (length_c _ _ _ (Lib.hid (hn.out.below (by exact below_drewN ((Below.refl _ _).alloc (Nat.le_refl _) _) _)))))))
      go_wp2_with fail
      go_ret
      exact ⟨ret_bool HV.out.symm, below_drewN ((Below.refl _ _).alloc (Nat.le_refl _) _) _⟩
    · have HV := Lib.hid (vValid_no2 (y := y) (m := m) (d := d) (by omega))
      have hb : decide (1 ≤ d) = false := by simpa using hd
      clear hy
      go_enter Tryd.func21, Tryd.ntmps21
      go_wp2_with fail
      go_quiet ((go_at_call 25; exact Calls.quiet_of_same (HY.out ▸ flip (inrange_c _ _))))
      go_wp2_with fail
      go_ret
      exact ⟨ret_bool HV.out.symm, below_drewN ((Below.refl _ _).alloc (Nat.le_refl _) _) _⟩

set_option maxHeartbeats 400000 in
theorem rvalid_c (y m d : Int) (w : World) : Calls Tryd.prog 22 #[.agg #[.int .i64 y, .int .i64 m, .int .i64 d]] w fun e w' => e = .returned (.bool (vValid y m d)) ∧ Below w.heap.size w w' := by
  cases hy : vIn y
  · have HV := Lib.hid (vValid_no1 (m := m) (d := d) hy)
    have HY := Lib.hid hy
    clear hy
    go_enter Tryd.func22, Tryd.ntmps22
    go_wp2_with fail
    go_quiet ((go_at_call 15; exact Calls.quiet_of_same (HY.out ▸ flip (in_c _ _))))
    go_wp2_with fail
    go_ret
    exact ⟨ret_bool HV.out.symm, below_drewN ((Below.refl _ _).alloc (Nat.le_refl _) _) _⟩
  · have HY := Lib.hid hy
    obtain ⟨y1, y2⟩ := vIn_iff.1 hy
    by_cases hd : 1 ≤ d
    · have HV := Lib.hid (vValid_at (m := m) hy hd)
      clear hy
      go_enter Tryd.func22, Tryd.ntmps22
      go_wp2_with fail
      go_quiet (first | (go_at_call 15; exact Calls.quiet_of_same (HY.out ▸ flip (in_c _ _))) | (go_at_call 18; exact Calls.quiet_of_same (flip (rleap_c _ _ (by omega) (by omega)))) | (go_at_call 20; exact Calls.quiet_of_same (flip (rlength_c _ _ _))))
      go_wp2_with fail
      go_ret
      exact ⟨ret_bool HV.out.symm, below_drewN ((Below.refl _ _).alloc (Nat.le_refl _) _) _⟩
    · have HV := Lib.hid (vValid_no2 (y := y) (m := m) (d := d) (by omega))
      have hb : decide (1 ≤ d) = false := by simpa using hd
      clear hy
      go_enter Tryd.func22, Tryd.ntmps22
      go_wp2_with fail
      go_quiet ((go_at_call 15; exact Calls.quiet_of_same (HY.out ▸ flip (in_c _ _))))
      go_wp2_with fail
      go_ret
      exact ⟨ret_bool HV.out.symm, below_drewN ((Below.refl _ _).alloc (Nat.le_refl _) _) _⟩

theorem vTo_out {y m d : Int} (h : vIn y = false) : vToN y m d = 0 ∧ vToE y m d = 1 := by
  unfold vToN vToE; rw [vValid_no1 h, h]; exact ⟨rfl, rfl⟩
theorem vTo_bad {y m d : Int} (h : vIn y = true) (g : vValid y m d = false) : vToN y m d = 0 ∧ vToE y m d = 2 := by
  unfold vToN vToE; rw [g, h]; exact ⟨rfl, rfl⟩
theorem vTo_ok {y m d : Int} (g : vValid y m d = true) : vToN y m d = vTo y m d ∧ vToE y m d = 0 := by
  have h : vIn y = true := by rw [vIn_iff]; exact (vValid_iff.1 g).1
  unfold vToN vToE; rw [g, h]; exact ⟨rfl, rfl⟩
/-- the three cells of a date that a call has boxed, in a later world -/
theorem boxed {w w1 : World} {y m d : Int} {t : TypeId} (hb : Below (w.heap.size + 1) (w.alloc (.cells #[.int .i64 y, .int .i64 m, .int .i64 d] t)) w1) :
    w1.cell? ⟨w.heap.size, 0, none⟩ = some (.int .i64 y) ∧ w1.cell? ⟨w.heap.size, 1, none⟩ = some (.int .i64 m) ∧ w1.cell? ⟨w.heap.size, 2, none⟩ = some (.int .i64 d) := by
  refine ⟨?_, ?_, ?_⟩
  all_goals (rw [hb.cell (by simp)]; simp [go_sem])

set_option maxHeartbeats 400000 in
theorem to_no (y m d : Int) (w : World) (hn : Hid (LensIn w)) (h : vValid y m d = false) : Calls Tryd.prog 10 #[.agg #[.int .i64 y, .int .i64 m, .int .i64 d]] w fun e w' => e = .returned (.tuple #[.int .i64 (vToN y m d), .int .i64 (vToE y m d)]) ∧ Below w.heap.size w w' := by
  cases hy : vIn y
  · obtain ⟨e1, e2⟩ := vTo_out (m := m) (d := d) hy
    have E1 := Lib.hid e1
    have E2 := Lib.hid e2
    have HY := Lib.hid hy
    clear hy e1 e2 h
    go_enter Tryd.func10, Tryd.ntmps10
    go_wp2_with (go_at_call 25; refine (inrange_c _ _).mono ?_; rintro e w' ⟨rfl, rfl⟩; rw [HY.out])
    go_ret2
    exact ⟨ret_ii E1.out.symm E2.out.symm, (Below.refl _ _).alloc (Nat.le_refl _) _⟩
  · obtain ⟨e1, e2⟩ := vTo_bad hy h
    have E1 := Lib.hid e1
    have E2 := Lib.hid e2
    have HY := Lib.hid hy
    have HV := Lib.hid h
    clear hy e1 e2 h
    go_enter Tryd.func10, Tryd.ntmps10
    go_wp2_with (first | (go_at_call 25; refine (inrange_c _ _).mono ?_; rintro e w' ⟨rfl, rfl⟩; rw [HY.out]) | (go_at_call 21; refine (valid_c _ _ _ _ (Lib.hid (hn.out.below (by exact ((Below.refl _ _).alloc (Nat.le_refl _) _))))).mono ?_; rintro e w1 ⟨rfl, hw⟩; rw [HV.out]))
    go_ret2
    exact ⟨ret_ii E1.out.symm E2.out.symm, ((Below.refl _ _).alloc (Nat.le_refl _) _).trans (hw.mono (by simp))⟩

set_option maxHeartbeats 400000 in
theorem to_yes (y m d : Int) (w : World) (hn : Hid (LensIn w)) (h : vValid y m d = true) : Calls Tryd.prog 10 #[.agg #[.int .i64 y, .int .i64 m, .int .i64 d]] w fun e w' => e = .returned (.tuple #[.int .i64 (vToN y m d), .int .i64 (vToE y m d)]) ∧ Below w.heap.size w w' := by
  obtain ⟨e1, e2⟩ := vTo_ok h
  obtain ⟨m1, m2⟩ := vValid_month h
  obtain ⟨⟨y1, y2⟩, d1, d2⟩ := vValid_iff.1 h
  have HY := Lib.hid (vIn_iff.2 ⟨y1, y2⟩)
  obtain ⟨f1, f2⟩ := vFirst_bd y1 (by omega)
  have d3 : d ≤ 31 := by have := vLen_le (vLeap y) m; omega
  have E1 := Lib.hid e1
  have E2 := Lib.hid e2
  have HV := Lib.hid h
  have HL := fun k => vLen_le (vLeap y) k
  have HC := fun k => @vCum_le (vLeap y) k
  have HS := fun k => @vCum_succ (vLeap y) k
  have L := Lib.hid HL
  have C := Lib.hid HC
  have S := Lib.hid HS
  have P := lp01 (vLeap y)
  clear e1 e2 h HL HC HS d2
  go_enter Tryd.func10, Tryd.ntmps10
  go_wp2_with (first | (go_at_call 25; refine (inrange_c _ _).mono ?_; rintro e w' ⟨rfl, rfl⟩; rw [HY.out]) | (go_at_call 21; refine (valid_c _ _ _ _ (Lib.hid (hn.out.below (by exact ((Below.refl _ _).alloc (Nat.le_refl _) _))))).mono ?_; rintro e w1 ⟨rfl, hw⟩; rw [HV.out]; obtain ⟨c0, c1, c2⟩ := boxed (hw.mono (by simp))))
  have HB : Below w.heap.size w w1 := ((Below.refl _ _).alloc (Nat.le_refl _) _).trans (hw.mono (by simp))
  clear hw
  go_quiet ((go_at_call 26; exact Calls.quiet_of (first_c _ _ (by omega) (by omega))))
  go_wp2_with fail
  go_loop [4, 5] (fun t i => ∃ k : Int, 1 ≤ k ∧ k ≤ m ∧ i = .int .i64 k ∧ t = .int .i64 (vFirst y + d - 1 + vCum (vLeap y) k)) (fun _ i => (m - intOf i).toNat)
  case atStart => exact ⟨1, by omega, by omega, rfl, by rw [vCum_one]; go_num⟩
  case round =>
    obtain ⟨k, k1, k2, rfl, rfl⟩ := hrel
    have b1 := L.out k
    have b2 := C.out k (by omega)
    by_cases hk : k < m
    · have b3 := Lib.hid (S.out k (by omega) (by omega))
      go_wp2_with (go_at_call 19; refine (length_c _ _ _ (Lib.hid (hn.out.below (by exact below_drewN HB _)))).mono ?_; rintro e w' ⟨rfl, rfl⟩)
      go_round
      case rel => exact ⟨k + 1, by omega, by omega, rfl, by rw [b3.out]; go_num⟩
      case measure => simp [intOf]; omega
    · obtain rfl : k = m := by omega
      go_wp2_with fail
      go_ret2
      exact ⟨ret_ii (by rw [E1.out]; unfold vTo; omega) E2.out.symm, below_drewN HB _⟩

theorem to_c (y m d : Int) (w : World) (hn : Hid (LensIn w)) : Calls Tryd.prog 10 #[.agg #[.int .i64 y, .int .i64 m, .int .i64 d]] w fun e w' => e = .returned (.tuple #[.int .i64 (vToN y m d), .int .i64 (vToE y m d)]) ∧ Below w.heap.size w w' := by
  cases h : vValid y m d
  · exact to_no y m d w hn h
  · exact to_yes y m d w hn h

set_option maxHeartbeats 400000 in
theorem rto_no (y m d : Int) (w : World) (h : vValid y m d = false) : Calls Tryd.prog 11 #[.agg #[.int .i64 y, .int .i64 m, .int .i64 d]] w fun e w' => e = .returned (.tuple #[.int .i64 (vToN y m d), .int .i64 (vToE y m d)]) ∧ Below w.heap.size w w' := by
  cases hy : vIn y
  · obtain ⟨e1, e2⟩ := vTo_out (m := m) (d := d) hy
    have E1 := Lib.hid e1
    have E2 := Lib.hid e2
    have HY := Lib.hid hy
    clear hy e1 e2 h
    go_enter Tryd.func11, Tryd.ntmps11
    go_wp2_with (go_at_call 15; refine (in_c _ _).mono ?_; rintro e w' ⟨rfl, rfl⟩; rw [HY.out])
    go_ret2
    exact ⟨ret_ii E1.out.symm E2.out.symm, (Below.refl _ _).alloc (Nat.le_refl _) _⟩
  · obtain ⟨e1, e2⟩ := vTo_bad hy h
    have E1 := Lib.hid e1
    have E2 := Lib.hid e2
    have HY := Lib.hid hy
    have HV := Lib.hid h
    clear hy e1 e2 h
    go_enter Tryd.func11, Tryd.ntmps11
    go_wp2_with (first | (go_at_call 15; refine (in_c _ _).mono ?_; rintro e w' ⟨rfl, rfl⟩; rw [HY.out]) | (go_at_call 22; refine (rvalid_c _ _ _ _).mono ?_; rintro e w1 ⟨rfl, hw⟩; rw [HV.out]))
    go_ret2
    exact ⟨ret_ii E1.out.symm E2.out.symm, ((Below.refl _ _).alloc (Nat.le_refl _) _).trans (hw.mono (by simp))⟩

set_option maxHeartbeats 400000 in
theorem rto_yes (y m d : Int) (w : World) (h : vValid y m d = true) : Calls Tryd.prog 11 #[.agg #[.int .i64 y, .int .i64 m, .int .i64 d]] w fun e w' => e = .returned (.tuple #[.int .i64 (vToN y m d), .int .i64 (vToE y m d)]) ∧ Below w.heap.size w w' := by
  obtain ⟨e1, e2⟩ := vTo_ok h
  obtain ⟨m1, m2⟩ := vValid_month h
  obtain ⟨⟨y1, y2⟩, d1, d2⟩ := vValid_iff.1 h
  have HY := Lib.hid (vIn_iff.2 ⟨y1, y2⟩)
  obtain ⟨f1, f2⟩ := vFirst_bd y1 (by omega)
  have d3 : d ≤ 31 := by have := vLen_le (vLeap y) m; omega
  have E1 := Lib.hid e1
  have E2 := Lib.hid e2
  have HV := Lib.hid h
  have HL := fun k => vLen_le (vLeap y) k
  have HC := fun k => @vCum_le (vLeap y) k
  have HS := fun k => @vCum_succ (vLeap y) k
  have L := Lib.hid HL
  have C := Lib.hid HC
  have S := Lib.hid HS
  have P := lp01 (vLeap y)
  clear e1 e2 h HL HC HS d2
  go_enter Tryd.func11, Tryd.ntmps11
  go_wp2_with (first | (go_at_call 15; refine (in_c _ _).mono ?_; rintro e w' ⟨rfl, rfl⟩; rw [HY.out]) | (go_at_call 16; refine (rfirst_c _ _ (by omega) (by omega)).mono ?_; rintro e w' ⟨rfl, rfl⟩) | (go_at_call 22; refine (rvalid_c _ _ _ _).mono ?_; rintro e w1 ⟨rfl, hw⟩; rw [HV.out]; obtain ⟨c0, c1, c2⟩ := boxed (hw.mono (by simp))))
  have HB : Below w.heap.size w w1 := ((Below.refl _ _).alloc (Nat.le_refl _) _).trans (hw.mono (by simp))
  clear hw
  go_loop [4, 5] (fun t i => ∃ k : Int, 1 ≤ k ∧ k ≤ m ∧ i = .int .i64 k ∧ t = .int .i64 (vFirst y + vCum (vLeap y) k)) (fun _ i => (m - intOf i).toNat)
  case atStart => exact ⟨1, by omega, by omega, rfl, by rw [vCum_one]; go_num⟩
  case round =>
    obtain ⟨k, k1, k2, rfl, rfl⟩ := hrel
    have b1 := L.out k
    have b2 := C.out k (by omega)
    by_cases hk : k < m
    · have b3 := Lib.hid (S.out k (by omega) (by omega))
      go_wp2_with (first | (go_at_call 18; refine (rleap_c _ _ (by omega) (by omega)).mono ?_; rintro e w' ⟨rfl, rfl⟩) | (go_at_call 20; refine (rlength_c _ _ _).mono ?_; rintro e w' ⟨rfl, rfl⟩))
      go_round
      case rel => exact ⟨k + 1, by omega, by omega, rfl, by rw [b3.out]; go_num⟩
      case measure => simp [intOf]; omega
    · obtain rfl : k = m := by omega
      go_wp2_with fail
      go_ret2
      exact ⟨ret_ii (by rw [E1.out]; unfold vTo; omega) E2.out.symm, HB⟩

theorem rto_c (y m d : Int) (w : World) : Calls Tryd.prog 11 #[.agg #[.int .i64 y, .int .i64 m, .int .i64 d]] w fun e w' => e = .returned (.tuple #[.int .i64 (vToN y m d), .int .i64 (vToE y m d)]) ∧ Below w.heap.size w w' := by
  cases h : vValid y m d
  · exact rto_no y m d w h
  · exact rto_yes y m d w h
end Go.Proofs.YtmdeeofeikdeeaaDoor
