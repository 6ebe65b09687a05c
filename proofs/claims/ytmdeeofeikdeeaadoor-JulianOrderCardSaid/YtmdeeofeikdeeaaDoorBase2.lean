/-
  Contracts of the small functions of package julian and of its reference: Leap, Length, first, First, inRange, In, for all integers, wherever the table of lengths lies in memory as the program text lays it.
-/
import Derived.Test.YtmdeeofeikdeeaaDoorBase
import Derived.Test.YtmdeeofeikdeeaaDoorCal
import Derived.LoopTactic
namespace Go.Proofs.YtmdeeofeikdeeaaDoor
open Go.RowKit
set_option linter.unusedVariables false

theorem chain {w w1 w2 : World} (h : Below w.heap.size w w1) (g : Below w1.heap.size w1 w2) : Below w.heap.size w w2 := h.trans (g.mono h.size)
/-- The table of lengths lies in block 0. -/
def LensIn (w : World) : Prop := 0 < w.heap.size ∧ w.cell? ⟨0, 0, none⟩ = some (.int .i64 31) ∧ w.cell? ⟨0, 1, none⟩ = some (.int .i64 28) ∧ w.cell? ⟨0, 2, none⟩ = some (.int .i64 31) ∧ w.cell? ⟨0, 3, none⟩ = some (.int .i64 30) ∧ w.cell? ⟨0, 4, none⟩ = some (.int .i64 31) ∧ w.cell? ⟨0, 5, none⟩ = some (.int .i64 30) ∧ w.cell? ⟨0, 6, none⟩ = some (.int .i64 31) ∧ w.cell? ⟨0, 7, none⟩ = some (.int .i64 31) ∧ w.cell? ⟨0, 8, none⟩ = some (.int .i64 30) ∧ w.cell? ⟨0, 9, none⟩ = some (.int .i64 31) ∧ w.cell? ⟨0, 10, none⟩ = some (.int .i64 30) ∧ w.cell? ⟨0, 11, none⟩ = some (.int .i64 31)
theorem LensIn.below {w w' : World} (h : LensIn w) (hb : Below w.heap.size w w') : LensIn w' := by
  obtain ⟨h0, a0, a1, a2, a3, a4, a5, a6, a7, a8, a9, a10, a11⟩ := h
  refine ⟨Nat.lt_of_lt_of_le h0 hb.size, ?_, ?_, ?_, ?_, ?_, ?_, ?_, ?_, ?_, ?_, ?_, ?_⟩
  all_goals (rw [hb.cell (by exact h0)]; assumption)

theorem vMod4 (n : Int) : n.fmod 4 = n % 4 := Int.fmod_eq_emod_of_nonneg _ (by omega)
theorem spl_pos (n : Int) {b : Int} (hb : 0 < b) : spl n b = true := by simp [spl]; omega
theorem vDiv_pos {n b : Int} (hb : 0 < b) : vDiv n b = n / b := by unfold vDiv; rw [if_pos (spl_pos n hb), Int.fdiv_eq_ediv_of_nonneg _ (by omega)]
theorem vMod_pos {n b : Int} (hb : 0 < b) : vMod n b = n % b := by unfold vMod; rw [if_pos (spl_pos n hb), Int.fmod_eq_emod_of_nonneg _ (by omega)]
theorem tmod4 (y : Int) : (y.tmod 4 == 0) = vLeap y := by
  unfold vLeap
  rw [Bool.eq_iff_iff]
  simp only [beq_iff_eq, decide_eq_true_eq]
  rw [← Int.dvd_iff_tmod_eq_zero, Int.dvd_iff_emod_eq_zero]

set_option maxHeartbeats 400000 in
theorem leap_c (y : Int) (w : World) : Calls Tryd.prog 17 #[.int .i64 y] w fun e w' => e = .returned (.bool (vLeap y)) ∧ w = w' := by
  have H := Lib.hid (tmod4 y)
  go_enter Tryd.func17, Tryd.ntmps17
  go_wp2
  go_ret
  exact ⟨ret_bool H.out, rfl⟩

set_option maxHeartbeats 400000 in
theorem rleap_c (y : Int) (w : World) (h1 : -9223372036854775808 ≤ y) (h2 : y ≤ 9223372036854775807) : Calls Tryd.prog 18 #[.int .i64 y] w fun e w' => e = .returned (.bool (vLeap y)) ∧ w = w' := by
  go_enter Tryd.func18, Tryd.ntmps18
  go_wp2_with (go_at_call 29; refine (rmod_c _ _ _ h1 h2 (by omega) (by omega) (spl_pos y (by omega))).mono ?_; rintro e w' ⟨rfl, rfl⟩; rw [vMod4])
  go_ret
  exact ⟨ret_bool (by unfold vLeap; rw [Bool.eq_iff_iff]; simp), rfl⟩

set_option maxHeartbeats 400000 in
theorem inrange_c (y : Int) (w : World) : Calls Tryd.prog 25 #[.int .i64 y] w fun e w' => e = .returned (.bool (vIn y)) ∧ w = w' := by
  go_enter Tryd.func25, Tryd.ntmps25
  go_wp2
  all_goals (go_ret; exact ⟨ret_bool (by unfold vIn; rw [Bool.eq_iff_iff]; simp; omega), rfl⟩)

set_option maxHeartbeats 400000 in
theorem in_c (y : Int) (w : World) : Calls Tryd.prog 15 #[.int .i64 y] w fun e w' => e = .returned (.bool (vIn y)) ∧ w = w' := by
  go_enter Tryd.func15, Tryd.ntmps15
  go_wp2
  all_goals (go_ret; exact ⟨ret_bool (by unfold vIn; rw [Bool.eq_iff_iff]; simp; omega), rfl⟩)

set_option maxHeartbeats 1000000 in
theorem length_c (y m : Int) (w : World) (hn : Hid (LensIn w)) : Calls Tryd.prog 19 #[.int .i64 y, .int .i64 m] w fun e w' => e = .returned (.int .i64 (vLen (vLeap y) m)) ∧ w = w' := by
  by_cases h0 : m < 1
  · have HV := Lib.hid (@vLen_out (vLeap y) m (.inl h0))
    go_enter Tryd.func19, Tryd.ntmps19
    go_wp2
    go_ret
    exact ⟨ret_int HV.out.symm, rfl⟩
  by_cases h6 : 12 < m
  · have HV := Lib.hid (@vLen_out (vLeap y) m (.inr h6))
    go_enter Tryd.func19, Tryd.ntmps19
    go_wp2
    go_ret
    exact ⟨ret_int HV.out.symm, rfl⟩
  obtain ⟨_, a0, a1, a2, a3, a4, a5, a6, a7, a8, a9, a10, a11⟩ := hn.out
  by_cases h2 : m = 2
  · subst h2
    cases hl : vLeap y
    all_goals
      have HL := Lib.hid hl
      clear hl
      go_enter Tryd.func19, Tryd.ntmps19
      go_wp2_with (go_at_call 17; refine (leap_c _ _).mono ?_; rintro e w' ⟨rfl, rfl⟩; rw [HL.out])
      go_ret
      exact ⟨rfl, rfl⟩
  · rcases twelve (show 1 ≤ m by omega) (by omega) with rfl | rfl | rfl | rfl | rfl | rfl | rfl | rfl | rfl | rfl | rfl | rfl
    case inr.inl => exact absurd rfl h2
    all_goals
      clear h2
      go_enter Tryd.func19, Tryd.ntmps19
      go_wp2
      go_ret
      exact ⟨rfl, rfl⟩

set_option maxHeartbeats 1000000 in
theorem rlength_c (b : Bool) (m : Int) (w : World) : Calls Tryd.prog 20 #[.bool b, .int .i64 m] w fun e w' => e = .returned (.int .i64 (vLen b m)) ∧ w = w' := by
  by_cases h : m < 1 ∨ 12 < m
  · have HV := Lib.hid (@vLen_out b m h)
    have b1 : (m == 1) = false := by simp; omega
    have b2 : (m == 2) = false := by simp; omega
    have b3 : (m == 3) = false := by simp; omega
    have b4 : (m == 4) = false := by simp; omega
    have b5 : (m == 5) = false := by simp; omega
    have b6 : (m == 6) = false := by simp; omega
    have b7 : (m == 7) = false := by simp; omega
    have b8 : (m == 8) = false := by simp; omega
    have b9 : (m == 9) = false := by simp; omega
    have b10 : (m == 10) = false := by simp; omega
    have b11 : (m == 11) = false := by simp; omega
    have b12 : (m == 12) = false := by simp; omega
    clear h
    go_enter Tryd.func20, Tryd.ntmps20
    go_wp2
    go_ret
    exact ⟨ret_int HV.out.symm, rfl⟩
  cases b
  all_goals
    rcases twelve (show 1 ≤ m by omega) (by omega) with rfl | rfl | rfl | rfl | rfl | rfl | rfl | rfl | rfl | rfl | rfl | rfl
    all_goals
      clear h
      go_enter Tryd.func20, Tryd.ntmps20
      go_wp2
      go_ret
      exact ⟨rfl, rfl⟩

set_option maxHeartbeats 400000 in
theorem first_c (y : Int) (w : World) (h1 : 0 ≤ y) (h2 : y ≤ 1000000010) : Calls Tryd.prog 26 #[.int .i64 y] w fun e w' => e = .returned (.int .i64 (vFirst y)) ∧ Qt w w' := by
  have b1 : -1 ≤ (y - 1) / 4 := by omega
  have b2 : (y - 1) / 4 ≤ 250000003 := by omega
  go_enter Tryd.func26, Tryd.ntmps26
  go_wp2_with (go_at_call 27; refine (div_c _ _ _ (by omega) (by omega) (by omega) (by omega)).mono ?_; rintro e w' ⟨rfl, hw⟩; rw [vDiv_pos (by omega)])
  go_ret
  exact ⟨ret_int (by unfold vFirst; omega), hw⟩

set_option maxHeartbeats 400000 in
theorem rfirst_c (y : Int) (w : World) (h1 : 1 ≤ y) (h2 : y ≤ 1000000010) : Calls Tryd.prog 16 #[.int .i64 y] w fun e w' => e = .returned (.int .i64 (vFirst y)) ∧ w = w' := by
  have b1 : 0 ≤ (y - 1) / 4 := by omega
  have b2 : (y - 1) / 4 ≤ 250000003 := by omega
  go_enter Tryd.func16, Tryd.ntmps16
  go_wp2
  go_ret
  exact ⟨ret_int (by unfold vFirst; omega), rfl⟩

def vFst (y : Int) : Int := if vIn y = true then vFirst y else 0
def vFstE (y : Int) : Int := if vIn y = true then 0 else 1
theorem ret_ii {k : IntKind} {a b c d : Int} (h : a = b) (g : c = d) : Ending.returned (.tuple #[.int k a, .int k c]) = .returned (.tuple #[.int k b, .int k d]) := by rw [h, g]
set_option maxHeartbeats 400000 in
theorem First_c (y : Int) (w : World) : Calls Tryd.prog 14 #[.int .i64 y] w fun e w' => e = .returned (.tuple #[.int .i64 (vFst y), .int .i64 (vFstE y)]) ∧ Qt w w' := by
  cases h : vIn y
  · have HA := Lib.hid (show vFst y = 0 by unfold vFst; rw [h]; rfl)
    have HE := Lib.hid (show vFstE y = 1 by unfold vFstE; rw [h]; rfl)
    have H := Lib.hid h
    clear h
    go_enter Tryd.func14, Tryd.ntmps14
    go_wp2_with (go_at_call 25; refine (inrange_c _ _).mono ?_; rintro e w' ⟨rfl, rfl⟩; rw [H.out])
    go_ret2
    exact ⟨ret_ii HA.out.symm HE.out.symm, Qt.refl _⟩
  · have HA := Lib.hid (show vFst y = vFirst y by unfold vFst; rw [if_pos h])
    have HE := Lib.hid (show vFstE y = 0 by unfold vFstE; rw [if_pos h])
    have H := Lib.hid h
    obtain ⟨y1, y2⟩ := vIn_iff.1 h
    clear h
    go_enter Tryd.func14, Tryd.ntmps14
    go_wp2_with (first | (go_at_call 25; refine (inrange_c _ _).mono ?_; rintro e w' ⟨rfl, rfl⟩; rw [H.out]) | (go_at_call 26; refine (first_c _ _ (by omega) (by omega)).mono ?_; rintro e w' ⟨rfl, hw⟩))
    go_ret2
    exact ⟨ret_ii HA.out.symm HE.out.symm, hw⟩
end Go.Proofs.YtmdeeofeikdeeaaDoor
