/-
  Contracts of FromDay in one form, of the reference's Next and Less, and of the law's awake.
-/
import Derived.Test.YtmdeeofeikdeeaaDoorFrom
namespace Go.Proofs.YtmdeeofeikdeeaaDoor
open Go.RowKit
set_option linter.unusedVariables false

def fY (n : Int) : Int := if vDayOk n = true then vYear n else 0
def fM (n : Int) : Int := if vDayOk n = true then mMon n else 0
def fD (n : Int) : Int := if vDayOk n = true then mDay n else 0
def fE (n : Int) : Int := if vDayOk n = true then 0 else 1
theorem from_c (n : Int) (w : World) (hn : Hid (LensIn w)) : Calls Tryd.prog 12 #[.int .i64 n] w fun e w' => e = .returned (.tuple #[.agg #[.int .i64 (fY n), .int .i64 (fM n), .int .i64 (fD n)], .int .i64 (fE n)]) ∧ Below w.heap.size w w' := by
  unfold fY fM fD fE
  cases h : vDayOk n
  · exact from_no n w h
  · exact from_yes n w hn h
theorem rfrom_c (n : Int) (w : World) : Calls Tryd.prog 13 #[.int .i64 n] w fun e w' => e = .returned (.tuple #[.agg #[.int .i64 (fY n), .int .i64 (fM n), .int .i64 (fD n)], .int .i64 (fE n)]) ∧ Below w.heap.size w w' := by
  unfold fY fM fD fE
  cases h : vDayOk n
  · exact rfrom_no n w h
  · exact rfrom_yes n w h

def nY (y m d : Int) (b : Bool) : Int := if d < vLen b m then y else if m < 12 then y else y + 1
def nM (y m d : Int) (b : Bool) : Int := if d < vLen b m then m else if m < 12 then m + 1 else 1
def nD (y m d : Int) (b : Bool) : Int := if d < vLen b m then d + 1 else 1
theorem agg_eq {a b c a' b' c' : Int} (h1 : a = a') (h2 : b = b') (h3 : c = c') : Ending.returned (.agg #[.int .i64 a, .int .i64 b, .int .i64 c]) = .returned (.agg #[.int .i64 a', .int .i64 b', .int .i64 c']) := by rw [h1, h2, h3]

set_option maxHeartbeats 400000 in
theorem next_c (y m d : Int) (b : Bool) (w : World) (y1 : 1 ≤ y) (y2 : y ≤ 1000000000) (m1 : 1 ≤ m) (m2 : m ≤ 12) (d1 : 1 ≤ d) : Calls Tryd.prog 23 #[.agg #[.int .i64 y, .int .i64 m, .int .i64 d], .bool b] w fun e w' => e = .returned (.agg #[.int .i64 (nY y m d b), .int .i64 (nM y m d b), .int .i64 (nD y m d b)]) ∧ Below w.heap.size w w' := by
  have HB := ((Below.refl w.heap.size w).alloc (Nat.le_refl _) (.cells #[.int .i64 y, .int .i64 m, .int .i64 d] 23)).alloc (by simp) (.cells #[.int .i64 0, .int .i64 0, .int .i64 0] 23)
  have H1 := Lib.hid HB
  clear HB
  have L := vLen_le b m
  by_cases h : d < vLen b m
  · have E1 := Lib.hid (show nY y m d b = y by unfold nY; rw [if_pos h])
    have E2 := Lib.hid (show nM y m d b = m by unfold nM; rw [if_pos h])
    have E3 := Lib.hid (show nD y m d b = d + 1 by unfold nD; rw [if_pos h])
    go_enter Tryd.func23, Tryd.ntmps23
    go_wp2_with fail
    go_quiet ((go_at_call 20; exact Calls.quiet_of_same (flip (rlength_c _ _ _))))
    go_wp2_with fail
    refine bodyPost_ret (v := .agg #[.int .i64 y, .int .i64 m, .int .i64 (d + 1)]) (by simp [results, Tryd.results23, go_sem]) rfl ⟨agg_eq E1.out.symm E2.out.symm E3.out.symm, ?_⟩
    exact (((below_drewN H1.out _).setCell (by simp) _).setCell (by simp) _).setCell (by simp) _
  · by_cases hm : m < 12
    · have E1 := Lib.hid (show nY y m d b = y by unfold nY; rw [if_neg h, if_pos hm])
      have E2 := Lib.hid (show nM y m d b = m + 1 by unfold nM; rw [if_neg h, if_pos hm])
      have E3 := Lib.hid (show nD y m d b = 1 by unfold nD; rw [if_neg h])
      go_enter Tryd.func23, Tryd.ntmps23
      go_wp2_with fail
      go_quiet ((go_at_call 20; exact Calls.quiet_of_same (flip (rlength_c _ _ _))))
      go_wp2_with fail
      refine bodyPost_ret (v := .agg #[.int .i64 y, .int .i64 (m + 1), .int .i64 1]) (by simp [results, Tryd.results23, go_sem]) rfl ⟨agg_eq E1.out.symm E2.out.symm E3.out.symm, ?_⟩
      exact (((below_drewN H1.out _).setCell (by simp) _).setCell (by simp) _).setCell (by simp) _
    · have E1 := Lib.hid (show nY y m d b = y + 1 by unfold nY; rw [if_neg h, if_neg hm])
      have E2 := Lib.hid (show nM y m d b = 1 by unfold nM; rw [if_neg h, if_neg hm])
      have E3 := Lib.hid (show nD y m d b = 1 by unfold nD; rw [if_neg h])
      go_enter Tryd.func23, Tryd.ntmps23
      go_wp2_with fail
      go_quiet ((go_at_call 20; exact Calls.quiet_of_same (flip (rlength_c _ _ _))))
      go_wp2_with fail
      refine bodyPost_ret (v := .agg #[.int .i64 (y + 1), .int .i64 1, .int .i64 1]) (by simp [results, Tryd.results23, go_sem]) rfl ⟨agg_eq E1.out.symm E2.out.symm E3.out.symm, ?_⟩
      exact (((below_drewN H1.out _).setCell (by simp) _).setCell (by simp) _).setCell (by simp) _

def lessB (y m d y' m' d' : Int) : Bool := if y = y' then (if m = m' then decide (d < d') else decide (m < m')) else decide (y < y')
theorem lessB_1 (y m d y' m' d' : Int) (h : (y != y') = true) : lessB y m d y' m' d' = decide (y < y') := by
  unfold lessB; rw [if_neg (by simpa using h)]
theorem lessB_2 (y m d y' m' d' : Int) (h : (y != y') = false) (g : (m != m') = true) : lessB y m d y' m' d' = decide (m < m') := by
  unfold lessB; rw [if_pos (by simpa using h), if_neg (by simpa using g)]
theorem lessB_3 (y m d y' m' d' : Int) (h : (y != y') = false) (g : (m != m') = false) : lessB y m d y' m' d' = decide (d < d') := by
  unfold lessB; rw [if_pos (by simpa using h), if_pos (by simpa using g)]
set_option maxHeartbeats 400000 in
theorem less_c (y m d y' m' d' : Int) (w : World) : Calls Tryd.prog 24 #[.agg #[.int .i64 y, .int .i64 m, .int .i64 d], .agg #[.int .i64 y', .int .i64 m', .int .i64 d']] w fun e w' => e = .returned (.bool (lessB y m d y' m' d')) ∧ Below w.heap.size w w' := by
  have HB := ((Below.refl w.heap.size w).alloc (Nat.le_refl _) (.cells #[.int .i64 y, .int .i64 m, .int .i64 d] 23)).alloc (by simp) (.cells #[.int .i64 y', .int .i64 m', .int .i64 d'] 23)
  have H1 := Lib.hid HB
  clear HB
  go_enter Tryd.func24, Tryd.ntmps24
  go_wp2
  all_goals (go_ret; refine ⟨ret_bool ?_, H1.out⟩; have e1 := lessB_1 y m d y' m' d'; have e2 := lessB_2 y m d y' m' d'; have e3 := lessB_3 y m d y' m' d'; first | exact (e1 ‹_›).symm | exact (e2 (by assumption) (by assumption)).symm | exact (e3 (by assumption) (by assumption)).symm)

/-- Block b holds a date. -/
def BoxAt (b : Nat) (w : World) (y m d : Int) : Prop := b < w.heap.size ∧ w.cell? ⟨b, 0, none⟩ = some (.int .i64 y) ∧ w.cell? ⟨b, 1, none⟩ = some (.int .i64 m) ∧ w.cell? ⟨b, 2, none⟩ = some (.int .i64 d)
theorem BoxAt.below {b : Nat} {w w' : World} {y m d : Int} (h : BoxAt b w y m d) (hb : Below w.heap.size w w') : BoxAt b w' y m d := by
  obtain ⟨h0, h1, h2, h3⟩ := h
  refine ⟨Nat.lt_of_lt_of_le h0 hb.size, ?_, ?_, ?_⟩
  all_goals (rw [hb.cell (by exact h0)]; assumption)
theorem BoxAt.new (w : World) (y m d : Int) (t : TypeId) : BoxAt w.heap.size (w.alloc (.cells #[.int .i64 y, .int .i64 m, .int .i64 d] t)) y m d := by
  refine ⟨by simp, ?_, ?_, ?_⟩
  all_goals simp [go_sem]
theorem chainA {w w1 w2 : World} {o : Obj} (h : Below w.heap.size w w1) (g : Below (w1.heap.size + 1) (w1.alloc o) w2) : Below w.heap.size w w2 := (h.alloc h.size o).trans (g.mono (by have := h.size; omega))

set_option maxHeartbeats 400000 in
theorem awake_c (w : World) (hn : Hid (LensIn w)) : Calls Tryd.prog 9 #[] w fun e w' => e = .returned (.bool true) ∧ Below w.heap.size w w' := by
  have HB := Below.refl w.heap.size w
  go_enter Tryd.func9, Tryd.ntmps9
  go_wp2_with fail
  refine (to_c _ _ _ _ (Lib.hid (hn.out.below HB))).mono ?_; rintro e w1 ⟨rfl, hw⟩; replace HB := chain HB hw; clear hw; rw [show vToN 1582 10 4 = 577735 from by decide, show vToE 1582 10 4 = 0 from by decide]
  go_wp2_with fail
  refine (to_c _ _ _ _ (Lib.hid (hn.out.below HB))).mono ?_; rintro e w2 ⟨rfl, hw⟩; replace HB := chain HB hw; clear hw; rw [show vToN 4 2 29 = 1153 from by decide, show vToE 4 2 29 = 0 from by decide]
  go_wp2_with fail
  refine (from_c _ _ (Lib.hid (hn.out.below HB))).mono ?_; rintro e w3 ⟨rfl, hw⟩; replace HB := chain HB hw; clear hw; rw [show fY (-1) = 1 from by decide, show fM (-1) = 1 from by decide, show fD (-1) = 1 from by decide, show fE (-1) = 0 from by decide]
  go_wp2_with fail
  have BX := BoxAt.new w3 1 1 1 23
  replace HB := HB.alloc HB.size (.cells #[.int .i64 1, .int .i64 1, .int .i64 1] 23)
  generalize w3.alloc (.cells #[.int .i64 1, .int .i64 1, .int .i64 1] 23) = w4 at *
  generalize w3.heap.size = b at *
  refine (to_c _ _ _ _ (Lib.hid (hn.out.below HB))).mono ?_; rintro e w5 ⟨rfl, hw⟩; replace HB := chain HB hw; replace BX := BX.below hw; clear hw; rw [show vToN 5 2 29 = 0 from by decide, show vToE 5 2 29 = 2 from by decide]
  go_wp2_with fail
  refine (from_c _ _ (Lib.hid (hn.out.below HB))).mono ?_; rintro e w6 ⟨rfl, hw⟩; replace HB := chain HB hw; replace BX := BX.below hw; clear hw; rw [show fY (-2) = 0 from by decide, show fM (-2) = 0 from by decide, show fD (-2) = 0 from by decide, show fE (-2) = 1 from by decide]
  go_wp2_with fail
  replace BX := BX.below ((Below.refl _ _).alloc (Nat.le_refl _) (.cells #[.int .i64 0, .int .i64 0, .int .i64 0] 23))
  replace HB := HB.alloc HB.size (.cells #[.int .i64 0, .int .i64 0, .int .i64 0] 23)
  generalize w6.alloc (.cells #[.int .i64 0, .int .i64 0, .int .i64 0] 23) = w6' at *
  refine (First_c _ _).mono ?_; rintro e w7 ⟨rfl, hw⟩; replace HB := chain HB hw.below; replace BX := BX.below hw.below; clear hw; rw [show vFst 1 = -1 from by decide, show vFstE 1 = 0 from by decide]
  obtain ⟨_, x0, x1, x2⟩ := BX
  go_wp2_with fail
  go_ret
  exact ⟨rfl, HB⟩
end Go.Proofs.YtmdeeofeikdeeaaDoor
