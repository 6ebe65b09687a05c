/-
  The law 'JulianRoundTrip' answers true for every input, and each argument reads afterwards as it read before; the package-level variables start as the program's text lays them (the card ties that). No other condition.
  The frame follows the kit's own examples; the walk is ours.
-/
import Derived.Test.YtmdeeofeikdeeaaDoorCards
import Derived.Test.YtmdeeofeikdeeaaDoorTie
import Derived.Test.YtmdeeofeikdeeaaDoorLaid
import Derived.WalkKit
import Derived.ProofKit
import Derived.OpenShut
import Derived.ShutString
import Derived.ChangeOld
import Derived.Below
import Derived.Deep.DeepHandedRow
import Derived.Lib.SmallJoins
namespace Go.Proofs.YtmdeeofeikdeeaaDoor.julianRoundTrip
open Go.ChangeShapes Go.WideShapes Go.ChangeAt Go.RowKit Go.Joins
open Go.ChangeMaps (open_string shut_string)
set_option linter.unusedVariables false

theorem own : ownKnob Tryd.prog.godebug = none := by kernel_rfl

theorem notOk {y m d : Int} (h : vValid y m d = false) : (vToE y m d == 0) = false := by
  unfold vToE; rw [h]; cases vIn y <;> rfl
theorem backAgain {y m d : Int} (h : vValid y m d = true) : fY (vTo y m d) = y ∧ fM (vTo y m d) = m ∧ fD (vTo y m d) = d ∧ fE (vTo y m d) = 0 := by
  obtain ⟨b, e1, e2, e3⟩ := to_from h
  have k : vDayOk (vTo y m d) = true := vDayOk_iff.2 b
  unfold fY fM fD fE
  rw [if_pos k, if_pos k, if_pos k, if_pos k]
  exact ⟨e1, e2, e3, rfl⟩
theorem thereAgain {n : Int} (h : vDayOk n = true) : vValid (fY n) (fM n) (fD n) = true ∧ vToN (fY n) (fM n) (fD n) = n ∧ vToE (fY n) (fM n) (fD n) = 0 ∧ fE n = 0 := by
  obtain ⟨n1, n2⟩ := vDayOk_iff.1 h
  obtain ⟨v, t⟩ := from_valid n1 n2
  have e1 : fY n = vYear n := by unfold fY; rw [if_pos h]
  have e2 : fM n = mMon n := by unfold fM; rw [if_pos h]
  have e3 : fD n = mDay n := by unfold fD; rw [if_pos h]
  rw [e1, e2, e3]
  obtain ⟨p, q⟩ := vTo_ok v
  exact ⟨v, p.trans t, q, by unfold fE; rw [if_pos h]⟩
theorem noDay {n : Int} (h : vDayOk n = false) : fE n = 1 := by unfold fE; rw [h]; rfl

set_option maxRecDepth 100000 in
set_option maxHeartbeats 400000 in
theorem walk_no_no (a0_0 a0_1 a0_2 : Int) (a1 : Int) (w : World) (hL : Hid (LensIn w)) (hd : vValid a0_0 a0_1 a0_2 = false) (hn : vDayOk a1 = false) :
    Calls Tryd.prog 4 #[.agg #[.int .i64 a0_0, .int .i64 a0_1, .int .i64 a0_2], .int .i64 a1] w fun e w' => e = .returned (.bool true) ∧ Below w.heap.size w w' := by
  have t1 := notOk hd
  have N1 := Lib.hid (noDay hn)
  clear hd hn
  have HB := Below.refl w.heap.size w
  go_enter Tryd.func4, Tryd.ntmps4
  go_wp2_with fail
  have BA := BoxAt.new w (a0_0) (a0_1) (a0_2) 23
  replace HB := HB.alloc HB.size (.cells #[.int .i64 a0_0, .int .i64 a0_1, .int .i64 a0_2] 23)
  generalize w.alloc (.cells #[.int .i64 a0_0, .int .i64 a0_1, .int .i64 a0_2] 23) = wn at *
  obtain ⟨_, _, _, _⟩ := id BA
  refine (awake_c _ (Lib.hid (hL.out.below HB))).mono ?_; rintro e w1 ⟨rfl, hw⟩; replace HB := chain HB hw; replace BA := BA.below hw; clear hw; obtain ⟨_, _, _, _⟩ := id BA; skip
  go_wp2_with fail
  refine (to_c _ _ _ _ (Lib.hid (hL.out.below HB))).mono ?_; rintro e w2 ⟨rfl, hw⟩; replace HB := chain HB hw; replace BA := BA.below hw; clear hw; obtain ⟨_, _, _, _⟩ := id BA; skip
  go_wp2_with fail
  refine (from_c _ _ (Lib.hid (hL.out.below HB))).mono ?_; rintro e w4 ⟨rfl, hw⟩; replace HB := chain HB hw; replace BA := BA.below hw; clear hw; obtain ⟨_, _, _, _⟩ := id BA; rw [N1.out]
  go_wp2_with fail
  go_ret
  exact ⟨rfl, HB.alloc HB.size _⟩

set_option maxRecDepth 100000 in
set_option maxHeartbeats 400000 in
theorem walk_no_yes (a0_0 a0_1 a0_2 : Int) (a1 : Int) (w : World) (hL : Hid (LensIn w)) (hd : vValid a0_0 a0_1 a0_2 = false) (hn : vDayOk a1 = true) :
    Calls Tryd.prog 4 #[.agg #[.int .i64 a0_0, .int .i64 a0_1, .int .i64 a0_2], .int .i64 a1] w fun e w' => e = .returned (.bool true) ∧ Below w.heap.size w w' := by
  have t1 := notOk hd
  obtain ⟨v1, v2, v3, v4⟩ := thereAgain hn
  have V1 := Lib.hid v1
  have V2 := Lib.hid v2
  have V3 := Lib.hid v3
  have V4 := Lib.hid v4
  clear v1 v2 v3 v4
  clear hd hn
  have HB := Below.refl w.heap.size w
  go_enter Tryd.func4, Tryd.ntmps4
  go_wp2_with fail
  have BA := BoxAt.new w (a0_0) (a0_1) (a0_2) 23
  replace HB := HB.alloc HB.size (.cells #[.int .i64 a0_0, .int .i64 a0_1, .int .i64 a0_2] 23)
  generalize w.alloc (.cells #[.int .i64 a0_0, .int .i64 a0_1, .int .i64 a0_2] 23) = wn at *
  obtain ⟨_, _, _, _⟩ := id BA
  refine (awake_c _ (Lib.hid (hL.out.below HB))).mono ?_; rintro e w1 ⟨rfl, hw⟩; replace HB := chain HB hw; replace BA := BA.below hw; clear hw; obtain ⟨_, _, _, _⟩ := id BA; skip
  go_wp2_with fail
  refine (to_c _ _ _ _ (Lib.hid (hL.out.below HB))).mono ?_; rintro e w2 ⟨rfl, hw⟩; replace HB := chain HB hw; replace BA := BA.below hw; clear hw; obtain ⟨_, _, _, _⟩ := id BA; skip
  go_wp2_with fail
  refine (from_c _ _ (Lib.hid (hL.out.below HB))).mono ?_; rintro e w4 ⟨rfl, hw⟩; replace HB := chain HB hw; replace BA := BA.below hw; clear hw; obtain ⟨_, _, _, _⟩ := id BA; rw [V4.out]
  go_wp2_with fail
  have BY := BoxAt.new w4 (fY a1) (fM a1) (fD a1) 23
  replace BA := BA.below ((Below.refl _ _).alloc (Nat.le_refl _) (.cells #[.int .i64 (fY a1), .int .i64 (fM a1), .int .i64 (fD a1)] 23))
  replace HB := HB.alloc HB.size (.cells #[.int .i64 (fY a1), .int .i64 (fM a1), .int .i64 (fD a1)] 23)
  generalize w4.alloc (.cells #[.int .i64 (fY a1), .int .i64 (fM a1), .int .i64 (fD a1)] 23) = w4n at *
  generalize w4.heap.size = bBY at *
  obtain ⟨_, _, _, _⟩ := id BA
  obtain ⟨_, _, _, _⟩ := id BY
  refine (to_c _ _ _ _ (Lib.hid (hL.out.below HB))).mono ?_; rintro e w5 ⟨rfl, hw⟩; replace HB := chain HB hw; replace BA := BA.below hw; replace BY := BY.below hw; clear hw; obtain ⟨_, _, _, _⟩ := id BA; obtain ⟨_, _, _, _⟩ := id BY; rw [V2.out, V3.out]
  go_wp2_with fail
  refine (valid_c _ _ _ _ (Lib.hid (hL.out.below HB))).mono ?_; rintro e w6 ⟨rfl, hw⟩; replace HB := chain HB hw; replace BA := BA.below hw; replace BY := BY.below hw; clear hw; obtain ⟨_, _, _, _⟩ := id BA; obtain ⟨_, _, _, _⟩ := id BY; rw [V1.out]
  go_wp2_with fail
  go_ret
  exact ⟨rfl, HB⟩

set_option maxRecDepth 100000 in
set_option maxHeartbeats 400000 in
theorem walk_yes_no (a0_0 a0_1 a0_2 : Int) (a1 : Int) (w : World) (hL : Hid (LensIn w)) (hd : vValid a0_0 a0_1 a0_2 = true) (hn : vDayOk a1 = false) :
    Calls Tryd.prog 4 #[.agg #[.int .i64 a0_0, .int .i64 a0_1, .int .i64 a0_2], .int .i64 a1] w fun e w' => e = .returned (.bool true) ∧ Below w.heap.size w w' := by
  obtain ⟨p1, p2⟩ := vTo_ok hd
  obtain ⟨q1, q2, q3, q4⟩ := backAgain hd
  have P1 := Lib.hid p1
  have P2 := Lib.hid p2
  have Q1 := Lib.hid q1
  have Q2 := Lib.hid q2
  have Q3 := Lib.hid q3
  have Q4 := Lib.hid q4
  clear p1 p2 q1 q2 q3 q4
  have N1 := Lib.hid (noDay hn)
  clear hd hn
  have HB := Below.refl w.heap.size w
  go_enter Tryd.func4, Tryd.ntmps4
  go_wp2_with fail
  have BA := BoxAt.new w (a0_0) (a0_1) (a0_2) 23
  replace HB := HB.alloc HB.size (.cells #[.int .i64 a0_0, .int .i64 a0_1, .int .i64 a0_2] 23)
  generalize w.alloc (.cells #[.int .i64 a0_0, .int .i64 a0_1, .int .i64 a0_2] 23) = wn at *
  obtain ⟨_, _, _, _⟩ := id BA
  refine (awake_c _ (Lib.hid (hL.out.below HB))).mono ?_; rintro e w1 ⟨rfl, hw⟩; replace HB := chain HB hw; replace BA := BA.below hw; clear hw; obtain ⟨_, _, _, _⟩ := id BA; skip
  go_wp2_with fail
  refine (to_c _ _ _ _ (Lib.hid (hL.out.below HB))).mono ?_; rintro e w2 ⟨rfl, hw⟩; replace HB := chain HB hw; replace BA := BA.below hw; clear hw; obtain ⟨_, _, _, _⟩ := id BA; rw [P1.out, P2.out]
  go_wp2_with fail
  refine (from_c _ _ (Lib.hid (hL.out.below HB))).mono ?_; rintro e w3 ⟨rfl, hw⟩; replace HB := chain HB hw; replace BA := BA.below hw; clear hw; obtain ⟨_, _, _, _⟩ := id BA; rw [Q1.out, Q2.out, Q3.out, Q4.out]
  go_wp2_with fail
  have BX := BoxAt.new w3 (a0_0) (a0_1) (a0_2) 23
  replace BA := BA.below ((Below.refl _ _).alloc (Nat.le_refl _) (.cells #[.int .i64 a0_0, .int .i64 a0_1, .int .i64 a0_2] 23))
  replace HB := HB.alloc HB.size (.cells #[.int .i64 a0_0, .int .i64 a0_1, .int .i64 a0_2] 23)
  generalize w3.alloc (.cells #[.int .i64 a0_0, .int .i64 a0_1, .int .i64 a0_2] 23) = w3n at *
  generalize w3.heap.size = bBX at *
  obtain ⟨_, _, _, _⟩ := id BA
  obtain ⟨_, _, _, _⟩ := id BX
  refine (from_c _ _ (Lib.hid (hL.out.below HB))).mono ?_; rintro e w4 ⟨rfl, hw⟩; replace HB := chain HB hw; replace BA := BA.below hw; replace BX := BX.below hw; clear hw; obtain ⟨_, _, _, _⟩ := id BA; obtain ⟨_, _, _, _⟩ := id BX; rw [N1.out]
  go_wp2_with fail
  go_ret
  exact ⟨rfl, HB.alloc HB.size _⟩

set_option maxRecDepth 100000 in
set_option maxHeartbeats 400000 in
theorem walk_yes_yes (a0_0 a0_1 a0_2 : Int) (a1 : Int) (w : World) (hL : Hid (LensIn w)) (hd : vValid a0_0 a0_1 a0_2 = true) (hn : vDayOk a1 = true) :
    Calls Tryd.prog 4 #[.agg #[.int .i64 a0_0, .int .i64 a0_1, .int .i64 a0_2], .int .i64 a1] w fun e w' => e = .returned (.bool true) ∧ Below w.heap.size w w' := by
  obtain ⟨p1, p2⟩ := vTo_ok hd
  obtain ⟨q1, q2, q3, q4⟩ := backAgain hd
  have P1 := Lib.hid p1
  have P2 := Lib.hid p2
  have Q1 := Lib.hid q1
  have Q2 := Lib.hid q2
  have Q3 := Lib.hid q3
  have Q4 := Lib.hid q4
  clear p1 p2 q1 q2 q3 q4
  obtain ⟨v1, v2, v3, v4⟩ := thereAgain hn
  have V1 := Lib.hid v1
  have V2 := Lib.hid v2
  have V3 := Lib.hid v3
  have V4 := Lib.hid v4
  clear v1 v2 v3 v4
  clear hd hn
  have HB := Below.refl w.heap.size w
  go_enter Tryd.func4, Tryd.ntmps4
  go_wp2_with fail
  have BA := BoxAt.new w (a0_0) (a0_1) (a0_2) 23
  replace HB := HB.alloc HB.size (.cells #[.int .i64 a0_0, .int .i64 a0_1, .int .i64 a0_2] 23)
  generalize w.alloc (.cells #[.int .i64 a0_0, .int .i64 a0_1, .int .i64 a0_2] 23) = wn at *
  obtain ⟨_, _, _, _⟩ := id BA
  refine (awake_c _ (Lib.hid (hL.out.below HB))).mono ?_; rintro e w1 ⟨rfl, hw⟩; replace HB := chain HB hw; replace BA := BA.below hw; clear hw; obtain ⟨_, _, _, _⟩ := id BA; skip
  go_wp2_with fail
  refine (to_c _ _ _ _ (Lib.hid (hL.out.below HB))).mono ?_; rintro e w2 ⟨rfl, hw⟩; replace HB := chain HB hw; replace BA := BA.below hw; clear hw; obtain ⟨_, _, _, _⟩ := id BA; rw [P1.out, P2.out]
  go_wp2_with fail
  refine (from_c _ _ (Lib.hid (hL.out.below HB))).mono ?_; rintro e w3 ⟨rfl, hw⟩; replace HB := chain HB hw; replace BA := BA.below hw; clear hw; obtain ⟨_, _, _, _⟩ := id BA; rw [Q1.out, Q2.out, Q3.out, Q4.out]
  go_wp2_with fail
  have BX := BoxAt.new w3 (a0_0) (a0_1) (a0_2) 23
  replace BA := BA.below ((Below.refl _ _).alloc (Nat.le_refl _) (.cells #[.int .i64 a0_0, .int .i64 a0_1, .int .i64 a0_2] 23))
  replace HB := HB.alloc HB.size (.cells #[.int .i64 a0_0, .int .i64 a0_1, .int .i64 a0_2] 23)
  generalize w3.alloc (.cells #[.int .i64 a0_0, .int .i64 a0_1, .int .i64 a0_2] 23) = w3n at *
  generalize w3.heap.size = bBX at *
  obtain ⟨_, _, _, _⟩ := id BA
  obtain ⟨_, _, _, _⟩ := id BX
  refine (from_c _ _ (Lib.hid (hL.out.below HB))).mono ?_; rintro e w4 ⟨rfl, hw⟩; replace HB := chain HB hw; replace BA := BA.below hw; replace BX := BX.below hw; clear hw; obtain ⟨_, _, _, _⟩ := id BA; obtain ⟨_, _, _, _⟩ := id BX; rw [V4.out]
  go_wp2_with fail
  have BY := BoxAt.new w4 (fY a1) (fM a1) (fD a1) 23
  replace BA := BA.below ((Below.refl _ _).alloc (Nat.le_refl _) (.cells #[.int .i64 (fY a1), .int .i64 (fM a1), .int .i64 (fD a1)] 23))
  replace BX := BX.below ((Below.refl _ _).alloc (Nat.le_refl _) (.cells #[.int .i64 (fY a1), .int .i64 (fM a1), .int .i64 (fD a1)] 23))
  replace HB := HB.alloc HB.size (.cells #[.int .i64 (fY a1), .int .i64 (fM a1), .int .i64 (fD a1)] 23)
  generalize w4.alloc (.cells #[.int .i64 (fY a1), .int .i64 (fM a1), .int .i64 (fD a1)] 23) = w4n at *
  generalize w4.heap.size = bBY at *
  obtain ⟨_, _, _, _⟩ := id BA
  obtain ⟨_, _, _, _⟩ := id BX
  obtain ⟨_, _, _, _⟩ := id BY
  refine (to_c _ _ _ _ (Lib.hid (hL.out.below HB))).mono ?_; rintro e w5 ⟨rfl, hw⟩; replace HB := chain HB hw; replace BA := BA.below hw; replace BX := BX.below hw; replace BY := BY.below hw; clear hw; obtain ⟨_, _, _, _⟩ := id BA; obtain ⟨_, _, _, _⟩ := id BX; obtain ⟨_, _, _, _⟩ := id BY; rw [V2.out, V3.out]
  go_wp2_with fail
  refine (valid_c _ _ _ _ (Lib.hid (hL.out.below HB))).mono ?_; rintro e w6 ⟨rfl, hw⟩; replace HB := chain HB hw; replace BA := BA.below hw; replace BX := BX.below hw; replace BY := BY.below hw; clear hw; obtain ⟨_, _, _, _⟩ := id BA; obtain ⟨_, _, _, _⟩ := id BX; obtain ⟨_, _, _, _⟩ := id BY; rw [V1.out]
  go_wp2_with fail
  go_ret
  exact ⟨rfl, HB⟩

set_option maxRecDepth 100000 in
set_option maxHeartbeats 400000 in
theorem walk (a0_0 a0_1 a0_2 : Int) (a1 : Int) (w : World) (w0_0 : (Lit.int .i64 a0_0).wf = true) (w0_1 : (Lit.int .i64 a0_1).wf = true) (w0_2 : (Lit.int .i64 a0_2).wf = true) (w1 : (Lit.int .i64 a1).wf = true) (hL : Hid (LensIn w)) :
    Calls Tryd.prog 4 #[.agg #[.int .i64 a0_0, .int .i64 a0_1, .int .i64 a0_2], .int .i64 a1] w fun e w' => e = .returned (.bool true) ∧ Below w.heap.size w w' := by
  clear w0_0 w0_1 w0_2 w1
  cases hd : vValid a0_0 a0_1 a0_2
  · cases hn : vDayOk a1
    · exact walk_no_no _ _ _ _ w hL hd hn
    · exact walk_no_yes _ _ _ _ w hL hd hn
  · cases hn : vDayOk a1
    · exact walk_yes_no _ _ _ _ w hL hd hn
    · exact walk_yes_yes _ _ _ _ w hL hd hn

theorem contract (H : Type) (enc : TypeId × Value → H) (W : World) (base : Nat) (args : Array Value) (ds gs : List (DataW H)) (before : List MemPlace)
    (hval : ∀ (j : Nat) t v, Tryd.f4.params[j]? = some t → args[j]? = some v → Value.okWide Tryd.prog W .any base t v)
    (hW : DataW.Whole enc Tryd.prog Tryd.f4.params.toList Rows.julianRoundTripSpec.vars false W args.toList ds gs before) (hL : laidMetH Tryd.prog Rows.julianRoundTripRow.laid W) :
    Calls Tryd.prog 4 args W fun e W' => ∃ v, e = .returned v ∧ Rows.julianRoundTripSpec.post enc Tryd.prog Tryd.f4 false true false false W args v W' := by
  have hW' := hW
  obtain ⟨p, q, hA0, hV, rfl, hfz, hnd⟩ := hW
  have hA : DataW.TrodAll enc Tryd.prog W 0 (fun _ => true) true Tryd.f4.params.toList args.toList ds p := hA0
  rw [Tryd.params4] at hA hval
  obtain ⟨v0, vs0, d0, ds0, p0, q0, hargs, rfl, rfl, h0, r0⟩ := trodAll_cons hA
  obtain ⟨v1, vs1, d1, ds1, p1, q1, rfl, rfl, rfl, h1, r1⟩ := trodAll_cons r0
  obtain ⟨rfl, rfl, rfl⟩ := trodAll_nil r1
  obtain rfl : args = #[v0, v1] := by cases args; simp_all
  obtain ⟨rfl, rfl⟩ := trodVars_none hV
  obtain ⟨c0_0, c0_1, c0_2, y0_0, y0_1, y0_2, m0, rfl, rfl, rfl, g0_0, g0_1, g0_2⟩ := open_agg3 Tryd.underlying23 (by kernel_rfl) cells23 (hval 0 23 v0 rfl rfl) h0
  obtain ⟨a0_0, e0_0, rfl, w0_0⟩ := DataW.trod_int Tryd.underlying3 g0_0
  simp at e0_0
  subst e0_0
  obtain ⟨a0_1, e0_1, rfl, w0_1⟩ := DataW.trod_int Tryd.underlying3 g0_1
  simp at e0_1
  subst e0_1
  obtain ⟨a0_2, e0_2, rfl, w0_2⟩ := DataW.trod_int Tryd.underlying3 g0_2
  simp at e0_2
  subst e0_2
  obtain ⟨a1, rfl, rfl, rfl, w1⟩ := open_int Tryd.underlying3 (hval 1 3 v1 rfl rfl) h1
  clear hA0
  refine (walk a0_0 a0_1 a0_2 a1 W w0_0 w0_1 w0_2 w1 (Lib.hid (lensIn_of_laid (W := W) hL))).mono fun e W' ⟨he, bel⟩ => ?_
  subst he
  exact ⟨_, rfl, _, _, _, [], _, [], hW', trodAll_mk1 (shut_bool Tryd.underlying4 _), (trodAll_cons_mk (shut_agg3 (y0 := (.lit (.int .i64 a0_0), [])) (y1 := (.lit (.int .i64 a0_1), [])) (y2 := (.lit (.int .i64 a0_2), [])) Tryd.underlying23 (by kernel_rfl) cells23 ⟨1, by simp [DataW.trod, Tryd.underlying3, w0_0]⟩ ⟨1, by simp [DataW.trod, Tryd.underlying3, w0_1]⟩ ⟨1, by simp [DataW.trod, Tryd.underlying3, w0_2]⟩) (trodAll_cons_mk (shut_int Tryd.underlying3 w1) trodAll_mk0)), rfl, bel.frame _, fun h => by cases h⟩

noncomputable def laidWorld (os : Os) : World :=
  { World.holding Tryd.prog os ⟨#[], #[], []⟩ with heap := (World.holding Tryd.prog os ⟨#[], #[], []⟩).heap.modify 0 fun
      | .cells _ t frozen => .cells #[.int .i64 31, .int .i64 28, .int .i64 31, .int .i64 30, .int .i64 31, .int .i64 30, .int .i64 31, .int .i64 31, .int .i64 30, .int .i64 31, .int .i64 30, .int .i64 31] t frozen
      | o => o }
theorem laid_met (os : Os) : laidMet Tryd.prog Rows.julianRoundTripRow.laid ((laidWorld os).forCall (fun _ _ => 0) ⟨#[], #[.agg #[.int .i64 0, .int .i64 0, .int .i64 0], .int .i64 0], []⟩).memory :=
  laidMet_of_run' 8 (by kernel_rfl) (by kernel_rfl)
theorem reads (os : Os) {H : Type} (enc : TypeId × Value → H) : ∃ places, DataW.whole enc Tryd.prog ((laidWorld os).forCall (fun _ _ => 0) ⟨#[], #[.agg #[.int .i64 0, .int .i64 0, .int .i64 0], .int .i64 0], []⟩).memory Tryd.f4.params.toList Rows.julianRoundTripSpec.vars false #[.agg #[.int .i64 0, .int .i64 0, .int .i64 0], .int .i64 0].toList 8 = some ([.agg [.lit (.int .i64 0), .lit (.int .i64 0), .lit (.int .i64 0)], .lit (.int .i64 0)], [], places) :=
  ⟨[], by kernel_rfl⟩

set_option maxRecDepth 100000 in
theorem lifted (os : Os) (started : os.Started) (H : Type) (enc : TypeId × Value → H) (F : Stop.Interp) :
    ReturnsInHanded {} Tryd.checked os 4 .any ((OpenSpec.ofChange Rows.julianRoundTripSpec).preRow enc Tryd.prog Tryd.f4 Rows.julianRoundTripRow.domain false Rows.julianRoundTripRow.laid) (((OpenSpec.ofChange Rows.julianRoundTripSpec).at F).post enc Tryd.prog Tryd.f4 false true false false) := by
  obtain ⟨places, hx⟩ := reads os enc
  refine returnsInHanded_of_row (C := Tryd.checked) (s := OpenSpec.ofChange Rows.julianRoundTripSpec) own started (by kernel_rfl) Tryd.func4
    (witness_row_at (enc := enc) (C := Tryd.checked) false (laidWorld os) #[.agg #[.int .i64 0, .int .i64 0, .int .i64 0], .int .i64 0] rfl (by kernel_rfl) (by kernel_rfl) (by kernel_rfl)
      (OpenSpec.preRow_of_cond 8 hx (by kernel_rfl) (fun k hk => by cases hk) (by kernel_rfl) (laid_met os))) ?_
  intro W base args ds gs before hval hW _ _ _ hL _ _
  exact contract H enc W base args ds gs before hval hW hL

theorem said : Rows.JulianRoundTripSaid :=
  OpenClaim.holds_of_cond 4 Tryd.f4 rfl rfl rfl rfl rfl rfl rfl ⟨rfl, rfl, rfl, rfl, rfl⟩ rfl rfl rfl rfl rfl (by kernel_rfl) Tryd.func4 (by kernel_rfl)
    (of_decide_eq_true (by kernel_rfl)) (by unfold Func.isWrapper; first | (rw [if_pos (by decide +kernel)]; kernel_rfl) | (rw [if_neg (by decide +kernel)]; exact ⟨rfl, rfl⟩))
    (fun os started H enc _ F => by rw [OpenClaim.pre_eq_preRow]; exact lifted os started H enc F)

theorem plain (f : FuncId) (fn : Func) (hf : Tryd.pinned.checked.prog.funcNamed "computus/computuslaw02.JulianRoundTrip" = some f) (hfn : Tryd.pinned.checked.prog.funcs[f]? = some fn) :
    false = Tryd.pinned.checked.prog.looks [] ∧ ∀ (j : Nat) t, fn.params[j]? = some t → Tryd.pinned.checked.prog.wantsStandIn t = false := by
  obtain rfl : f = 4 := Option.some.inj ((show Tryd.prog.funcNamed "computus/computuslaw02.JulianRoundTrip" = some 4 by kernel_rfl).symm.trans hf) |>.symm
  obtain rfl : fn = Tryd.f4 := (Option.some.inj (Tryd.func4.symm.trans hfn)).symm
  refine ⟨by kernel_rfl, fun j t ht => ?_⟩
  rw [Tryd.params4] at ht
  have hm := Array.mem_of_getElem? ht
  simp only [List.mem_toArray, List.mem_cons, List.not_mem_nil, or_false] at hm
  rcases hm with rfl | rfl
  · exact (show Tryd.prog.wantsStandIn 23 = false by kernel_rfl)
  · exact (show Tryd.prog.wantsStandIn 3 = false by kernel_rfl)

theorem card : Rows.JulianRoundTripCardSaid :=
  Claim7.holds_tied_plain_at .later [] _ _ _ _ said (fun _ h => by cases h) (by kernel_rfl) (fun _ h => by cases h) julianRoundTrip_row_tie rfl ⟨rfl, rfl⟩ (by kernel_rfl) rfl plain (by kernel_rfl)
#print axioms card
end Go.Proofs.YtmdeeofeikdeeaaDoor.julianRoundTrip
