/-
  The law 'JulianOrder' answers true for every input, and each argument reads afterwards as it read before; the package-level variables start as the program's text lays them (the card ties that). No other condition.
  The frame follows the kit's own examples; the walk is ours.
-/
import Derived.Test.YtmdeeofeikdeeaaDoorCards
import Derived.Test.YtmdeeofeikdeeaaDoorTie
import Derived.Test.YtmdeeofeikdeeaaDoorLaid
import Derived.WalkKit
import Derived.ProofKit
import Derived.OpenShut
import Derived.ShutString
import Derived.ChangeOld
import Derived.Below
import Derived.Deep.DeepHandedRow
import Derived.Lib.SmallJoins
namespace Go.Proofs.YtmdeeofeikdeeaaDoor.julianOrder
open Go.ChangeShapes Go.WideShapes Go.ChangeAt Go.RowKit Go.Joins
open Go.ChangeMaps (open_string shut_string)
set_option linter.unusedVariables false

theorem own : ownKnob Tryd.prog.godebug = none := by kernel_rfl

theorem vTo_lt {y m d y' m' d' : Int} (h : vValid y m d = true) (h' : vValid y' m' d' = true) : (decide (vTo y m d < vTo y' m' d') == lessB y m d y' m' d') = true ∧ (vTo y m d = vTo y' m' d' ↔ (y = y' ∧ m = m' ∧ d = d')) := by
  obtain ⟨m1, m2⟩ := vValid_month h
  obtain ⟨n1, n2⟩ := vValid_month h'
  obtain ⟨_, d1, d2⟩ := vValid_iff.1 h
  obtain ⟨_, e1, e2⟩ := vValid_iff.1 h'
  have s1 := vCum_succ (b := vLeap y) m1 m2
  have s2 := vCum_succ (b := vLeap y') n1 n2
  have l1 := vCum_le (b := vLeap y) (m := m) (by omega)
  have l2 := vCum_le (b := vLeap y) (m := m + 1) (by omega)
  have l3 := vCum_le (b := vLeap y') (m := m') (by omega)
  have l4 := vCum_le (b := vLeap y') (m := m' + 1) (by omega)
  have f1 := vFirst_succ y
  have f2 := vFirst_succ y'
  have key : (vTo y m d < vTo y' m' d' ↔ lessB y m d y' m' d' = true) ∧ (vTo y m d = vTo y' m' d' ↔ (y = y' ∧ m = m' ∧ d = d')) := by
    unfold vTo lessB
    by_cases hy : y = y'
    · subst hy
      rw [if_pos rfl]
      by_cases hm : m = m'
      · subst hm
        rw [if_pos rfl, decide_eq_true_eq]; omega
      · rw [if_neg hm, decide_eq_true_eq]
        by_cases hlt : m < m'
        · have := vCum_mono (b := vLeap y) (m := m + 1) (k := m') (by omega) (by omega) (by omega)
          omega
        · have := vCum_mono (b := vLeap y) (m := m' + 1) (k := m) (by omega) (by omega) (by omega)
          omega
    · rw [if_neg hy, decide_eq_true_eq]
      by_cases hlt : y < y'
      · have := vFirst_mono (a := y + 1) (b := y') (by omega)
        omega
      · have := vFirst_mono (a := y' + 1) (b := y) (by omega)
        omega
  refine ⟨?_, key.2⟩
  rw [beq_iff_eq, Bool.eq_iff_iff, decide_eq_true_eq]; exact key.1
set_option maxRecDepth 100000 in
set_option maxHeartbeats 400000 in
theorem walk (a0_0 a0_1 a0_2 : Int) (a1_0 a1_1 a1_2 : Int) (w : World) (w0_0 : (Lit.int .i64 a0_0).wf = true) (w0_1 : (Lit.int .i64 a0_1).wf = true) (w0_2 : (Lit.int .i64 a0_2).wf = true) (w1_0 : (Lit.int .i64 a1_0).wf = true) (w1_1 : (Lit.int .i64 a1_1).wf = true) (w1_2 : (Lit.int .i64 a1_2).wf = true) (hL : Hid (LensIn w)) :
    Calls Tryd.prog 6 #[.agg #[.int .i64 a0_0, .int .i64 a0_1, .int .i64 a0_2], .agg #[.int .i64 a1_0, .int .i64 a1_1, .int .i64 a1_2]] w fun e w' => e = .returned (.bool true) ∧ Below w.heap.size w w' := by
  clear w0_0 w0_1 w0_2 w1_0 w1_1 w1_2
  cases ha : vValid a0_0 a0_1 a0_2
  · have VA := Lib.hid ha
    clear ha
    go_enter Tryd.func6, Tryd.ntmps6
    go_wp2_with fail
    have BA := (BoxAt.new w a0_0 a0_1 a0_2 23).below ((Below.refl _ _).alloc (Nat.le_refl _) (.cells #[.int .i64 a1_0, .int .i64 a1_1, .int .i64 a1_2] 23))
    have BB := BoxAt.new (w.alloc (.cells #[.int .i64 a0_0, .int .i64 a0_1, .int .i64 a0_2] 23)) a1_0 a1_1 a1_2 23
    have HB := ((Below.refl w.heap.size w).alloc (Nat.le_refl _) (.cells #[.int .i64 a0_0, .int .i64 a0_1, .int .i64 a0_2] 23)).alloc (by simp) (.cells #[.int .i64 a1_0, .int .i64 a1_1, .int .i64 a1_2] 23)
    rw [show (w.alloc (.cells #[.int .i64 a0_0, .int .i64 a0_1, .int .i64 a0_2] 23)).heap.size = w.heap.size + 1 by simp] at BB
    generalize (w.alloc (.cells #[.int .i64 a0_0, .int .i64 a0_1, .int .i64 a0_2] 23)).alloc (.cells #[.int .i64 a1_0, .int .i64 a1_1, .int .i64 a1_2] 23) = w0 at *
    go_wp2_with (first | (go_at_call 9; refine (awake_c _ (Lib.hid (hL.out.below HB))).mono ?_; rintro e w' ⟨rfl, hw⟩; replace HB := chain HB hw; replace BA := BA.below hw; replace BB := BB.below hw; clear hw; obtain ⟨_, _, _, _⟩ := id BA; obtain ⟨_, _, _, _⟩ := id BB;  skip) | (go_at_call 22; refine (rvalid_c _ _ _ _).mono ?_; rintro e w' ⟨rfl, hw⟩; replace HB := chain HB hw; replace BA := BA.below hw; replace BB := BB.below hw; clear hw; obtain ⟨_, _, _, _⟩ := id BA; obtain ⟨_, _, _, _⟩ := id BB; rw [VA.out]))
    go_ret
    exact ⟨rfl, HB⟩
  have VA := Lib.hid ha
  cases hb : vValid a1_0 a1_1 a1_2
  · have VB := Lib.hid hb
    clear ha hb
    go_enter Tryd.func6, Tryd.ntmps6
    go_wp2_with fail
    have BA := (BoxAt.new w a0_0 a0_1 a0_2 23).below ((Below.refl _ _).alloc (Nat.le_refl _) (.cells #[.int .i64 a1_0, .int .i64 a1_1, .int .i64 a1_2] 23))
    have BB := BoxAt.new (w.alloc (.cells #[.int .i64 a0_0, .int .i64 a0_1, .int .i64 a0_2] 23)) a1_0 a1_1 a1_2 23
    have HB := ((Below.refl w.heap.size w).alloc (Nat.le_refl _) (.cells #[.int .i64 a0_0, .int .i64 a0_1, .int .i64 a0_2] 23)).alloc (by simp) (.cells #[.int .i64 a1_0, .int .i64 a1_1, .int .i64 a1_2] 23)
    rw [show (w.alloc (.cells #[.int .i64 a0_0, .int .i64 a0_1, .int .i64 a0_2] 23)).heap.size = w.heap.size + 1 by simp] at BB
    generalize (w.alloc (.cells #[.int .i64 a0_0, .int .i64 a0_1, .int .i64 a0_2] 23)).alloc (.cells #[.int .i64 a1_0, .int .i64 a1_1, .int .i64 a1_2] 23) = w0 at *
    go_wp2_with (first | (go_at_call 9; refine (awake_c _ (Lib.hid (hL.out.below HB))).mono ?_; rintro e w' ⟨rfl, hw⟩; replace HB := chain HB hw; replace BA := BA.below hw; replace BB := BB.below hw; clear hw; obtain ⟨_, _, _, _⟩ := id BA; obtain ⟨_, _, _, _⟩ := id BB;  skip) | (go_at_call 22; refine (rvalid_c _ _ _ _).mono ?_; rintro e w' ⟨rfl, hw⟩; replace HB := chain HB hw; replace BA := BA.below hw; replace BB := BB.below hw; clear hw; obtain ⟨_, _, _, _⟩ := id BA; obtain ⟨_, _, _, _⟩ := id BB; first | rw [VA.out] | rw [VB.out]))
    go_ret
    exact ⟨rfl, HB⟩
  · have VB := Lib.hid hb
    obtain ⟨p1, p2⟩ := vTo_ok ha
    obtain ⟨p3, p4⟩ := vTo_ok hb
    obtain ⟨t1, t2⟩ := vTo_lt ha hb
    have P1 := Lib.hid p1
    have P2 := Lib.hid p2
    have P3 := Lib.hid p3
    have P4 := Lib.hid p4
    by_cases hab : a0_0 = a1_0 ∧ a0_1 = a1_1 ∧ a0_2 = a1_2
    · obtain ⟨rfl, rfl, rfl⟩ := hab
      have t4 : lessB a0_0 a0_1 a0_2 a0_0 a0_1 a0_2 = false := by simp [lessB]
      clear t1 ha hb p1 p2 p3 p4 t2
      go_enter Tryd.func6, Tryd.ntmps6
      go_wp2_with fail
      have BA := (BoxAt.new w a0_0 a0_1 a0_2 23).below ((Below.refl _ _).alloc (Nat.le_refl _) (.cells #[.int .i64 a0_0, .int .i64 a0_1, .int .i64 a0_2] 23))
      have BB := BoxAt.new (w.alloc (.cells #[.int .i64 a0_0, .int .i64 a0_1, .int .i64 a0_2] 23)) a0_0 a0_1 a0_2 23
      have HB := ((Below.refl w.heap.size w).alloc (Nat.le_refl _) (.cells #[.int .i64 a0_0, .int .i64 a0_1, .int .i64 a0_2] 23)).alloc (by simp) (.cells #[.int .i64 a0_0, .int .i64 a0_1, .int .i64 a0_2] 23)
      rw [show (w.alloc (.cells #[.int .i64 a0_0, .int .i64 a0_1, .int .i64 a0_2] 23)).heap.size = w.heap.size + 1 by simp] at BB
      generalize (w.alloc (.cells #[.int .i64 a0_0, .int .i64 a0_1, .int .i64 a0_2] 23)).alloc (.cells #[.int .i64 a0_0, .int .i64 a0_1, .int .i64 a0_2] 23) = w0 at *
      go_wp2_with (first | (go_at_call 9; refine (awake_c _ (Lib.hid (hL.out.below HB))).mono ?_; rintro e w' ⟨rfl, hw⟩; replace HB := chain HB hw; replace BA := BA.below hw; replace BB := BB.below hw; clear hw; obtain ⟨_, _, _, _⟩ := id BA; obtain ⟨_, _, _, _⟩ := id BB;  skip) | (go_at_call 22; refine (rvalid_c _ _ _ _).mono ?_; rintro e w' ⟨rfl, hw⟩; replace HB := chain HB hw; replace BA := BA.below hw; replace BB := BB.below hw; clear hw; obtain ⟨_, _, _, _⟩ := id BA; obtain ⟨_, _, _, _⟩ := id BB; first | rw [VA.out] | rw [VB.out]) | (go_at_call 10; refine (to_c _ _ _ _ (Lib.hid (hL.out.below HB))).mono ?_; rintro e w' ⟨rfl, hw⟩; replace HB := chain HB hw; replace BA := BA.below hw; replace BB := BB.below hw; clear hw; obtain ⟨_, _, _, _⟩ := id BA; obtain ⟨_, _, _, _⟩ := id BB; first | rw [P1.out, P2.out] | rw [P3.out, P4.out]) | (go_at_call 24; refine (less_c _ _ _ _ _ _ _).mono ?_; rintro e w' ⟨rfl, hw⟩; replace HB := chain HB hw; replace BA := BA.below hw; replace BB := BB.below hw; clear hw; obtain ⟨_, _, _, _⟩ := id BA; obtain ⟨_, _, _, _⟩ := id BB; skip))
      go_ret
      exact ⟨rfl, HB⟩
    · have t3 : (vTo a0_0 a0_1 a0_2 == vTo a1_0 a1_1 a1_2) = false := by
        rw [beq_eq_false_iff_ne]; exact fun e => hab (t2.1 e)
      have NE := Lib.hid hab
      clear ha hb p1 p2 p3 p4 t2 hab
      go_enter Tryd.func6, Tryd.ntmps6
      go_wp2_with fail
      have BA := (BoxAt.new w a0_0 a0_1 a0_2 23).below ((Below.refl _ _).alloc (Nat.le_refl _) (.cells #[.int .i64 a1_0, .int .i64 a1_1, .int .i64 a1_2] 23))
      have BB := BoxAt.new (w.alloc (.cells #[.int .i64 a0_0, .int .i64 a0_1, .int .i64 a0_2] 23)) a1_0 a1_1 a1_2 23
      have HB := ((Below.refl w.heap.size w).alloc (Nat.le_refl _) (.cells #[.int .i64 a0_0, .int .i64 a0_1, .int .i64 a0_2] 23)).alloc (by simp) (.cells #[.int .i64 a1_0, .int .i64 a1_1, .int .i64 a1_2] 23)
      rw [show (w.alloc (.cells #[.int .i64 a0_0, .int .i64 a0_1, .int .i64 a0_2] 23)).heap.size = w.heap.size + 1 by simp] at BB
      generalize (w.alloc (.cells #[.int .i64 a0_0, .int .i64 a0_1, .int .i64 a0_2] 23)).alloc (.cells #[.int .i64 a1_0, .int .i64 a1_1, .int .i64 a1_2] 23) = w0 at *
      go_wp2_with (first | (go_at_call 9; refine (awake_c _ (Lib.hid (hL.out.below HB))).mono ?_; rintro e w' ⟨rfl, hw⟩; replace HB := chain HB hw; replace BA := BA.below hw; replace BB := BB.below hw; clear hw; obtain ⟨_, _, _, _⟩ := id BA; obtain ⟨_, _, _, _⟩ := id BB;  skip) | (go_at_call 22; refine (rvalid_c _ _ _ _).mono ?_; rintro e w' ⟨rfl, hw⟩; replace HB := chain HB hw; replace BA := BA.below hw; replace BB := BB.below hw; clear hw; obtain ⟨_, _, _, _⟩ := id BA; obtain ⟨_, _, _, _⟩ := id BB; first | rw [VA.out] | rw [VB.out]) | (go_at_call 10; refine (to_c _ _ _ _ (Lib.hid (hL.out.below HB))).mono ?_; rintro e w' ⟨rfl, hw⟩; replace HB := chain HB hw; replace BA := BA.below hw; replace BB := BB.below hw; clear hw; obtain ⟨_, _, _, _⟩ := id BA; obtain ⟨_, _, _, _⟩ := id BB; first | rw [P1.out, P2.out] | rw [P3.out, P4.out]) | (go_at_call 24; refine (less_c _ _ _ _ _ _ _).mono ?_; rintro e w' ⟨rfl, hw⟩; replace HB := chain HB hw; replace BA := BA.below hw; replace BB := BB.below hw; clear hw; obtain ⟨_, _, _, _⟩ := id BA; obtain ⟨_, _, _, _⟩ := id BB; skip))
      all_goals first | (go_ret; exact ⟨rfl, HB⟩) | exact absurd ⟨‹_›, ‹_›, ‹_›⟩ NE.out

theorem contract (H : Type) (enc : TypeId × Value → H) (W : World) (base : Nat) (args : Array Value) (ds gs : List (DataW H)) (before : List MemPlace)
    (hval : ∀ (j : Nat) t v, Tryd.f6.params[j]? = some t → args[j]? = some v → Value.okWide Tryd.prog W .any base t v)
    (hW : DataW.Whole enc Tryd.prog Tryd.f6.params.toList Rows.julianOrderSpec.vars false W args.toList ds gs before) (hL : laidMetH Tryd.prog Rows.julianOrderRow.laid W) :
    Calls Tryd.prog 6 args W fun e W' => ∃ v, e = .returned v ∧ Rows.julianOrderSpec.post enc Tryd.prog Tryd.f6 false true false false W args v W' := by
  have hW' := hW
  obtain ⟨p, q, hA0, hV, rfl, hfz, hnd⟩ := hW
  have hA : DataW.TrodAll enc Tryd.prog W 0 (fun _ => true) true Tryd.f6.params.toList args.toList ds p := hA0
  rw [Tryd.params6] at hA hval
  obtain ⟨v0, vs0, d0, ds0, p0, q0, hargs, rfl, rfl, h0, r0⟩ := trodAll_cons hA
  obtain ⟨v1, vs1, d1, ds1, p1, q1, rfl, rfl, rfl, h1, r1⟩ := trodAll_cons r0
  obtain ⟨rfl, rfl, rfl⟩ := trodAll_nil r1
  obtain rfl : args = #[v0, v1] := by cases args; simp_all
  obtain ⟨rfl, rfl⟩ := trodVars_none hV
  obtain ⟨c0_0, c0_1, c0_2, y0_0, y0_1, y0_2, m0, rfl, rfl, rfl, g0_0, g0_1, g0_2⟩ := open_agg3 Tryd.underlying23 (by kernel_rfl) cells23 (hval 0 23 v0 rfl rfl) h0
  obtain ⟨a0_0, e0_0, rfl, w0_0⟩ := DataW.trod_int Tryd.underlying3 g0_0
  simp at e0_0
  subst e0_0
  obtain ⟨a0_1, e0_1, rfl, w0_1⟩ := DataW.trod_int Tryd.underlying3 g0_1
  simp at e0_1
  subst e0_1
  obtain ⟨a0_2, e0_2, rfl, w0_2⟩ := DataW.trod_int Tryd.underlying3 g0_2
  simp at e0_2
  subst e0_2
  obtain ⟨c1_0, c1_1, c1_2, y1_0, y1_1, y1_2, m1, rfl, rfl, rfl, g1_0, g1_1, g1_2⟩ := open_agg3 Tryd.underlying23 (by kernel_rfl) cells23 (hval 1 23 v1 rfl rfl) h1
  obtain ⟨a1_0, e1_0, rfl, w1_0⟩ := DataW.trod_int Tryd.underlying3 g1_0
  simp at e1_0
  subst e1_0
  obtain ⟨a1_1, e1_1, rfl, w1_1⟩ := DataW.trod_int Tryd.underlying3 g1_1
  simp at e1_1
  subst e1_1
  obtain ⟨a1_2, e1_2, rfl, w1_2⟩ := DataW.trod_int Tryd.underlying3 g1_2
  simp at e1_2
  subst e1_2
  clear hA0
  refine (walk a0_0 a0_1 a0_2 a1_0 a1_1 a1_2 W w0_0 w0_1 w0_2 w1_0 w1_1 w1_2 (Lib.hid (lensIn_of_laid (W := W) hL))).mono fun e W' ⟨he, bel⟩ => ?_
  subst he
  exact ⟨_, rfl, _, _, _, [], _, [], hW', trodAll_mk1 (shut_bool Tryd.underlying4 _), (trodAll_cons_mk (shut_agg3 (y0 := (.lit (.int .i64 a0_0), [])) (y1 := (.lit (.int .i64 a0_1), [])) (y2 := (.lit (.int .i64 a0_2), [])) Tryd.underlying23 (by kernel_rfl) cells23 ⟨1, by simp [DataW.trod, Tryd.underlying3, w0_0]⟩ ⟨1, by simp [DataW.trod, Tryd.underlying3, w0_1]⟩ ⟨1, by simp [DataW.trod, Tryd.underlying3, w0_2]⟩) (trodAll_cons_mk (shut_agg3 (y0 := (.lit (.int .i64 a1_0), [])) (y1 := (.lit (.int .i64 a1_1), [])) (y2 := (.lit (.int .i64 a1_2), [])) Tryd.underlying23 (by kernel_rfl) cells23 ⟨1, by simp [DataW.trod, Tryd.underlying3, w1_0]⟩ ⟨1, by simp [DataW.trod, Tryd.underlying3, w1_1]⟩ ⟨1, by simp [DataW.trod, Tryd.underlying3, w1_2]⟩) trodAll_mk0)), rfl, bel.frame _, fun h => by cases h⟩

noncomputable def laidWorld (os : Os) : World :=
  { World.holding Tryd.prog os ⟨#[], #[], []⟩ with heap := (World.holding Tryd.prog os ⟨#[], #[], []⟩).heap.modify 0 fun
      | .cells _ t frozen => .cells #[.int .i64 31, .int .i64 28, .int .i64 31, .int .i64 30, .int .i64 31, .int .i64 30, .int .i64 31, .int .i64 31, .int .i64 30, .int .i64 31, .int .i64 30, .int .i64 31] t frozen
      | o => o }
theorem laid_met (os : Os) : laidMet Tryd.prog Rows.julianOrderRow.laid ((laidWorld os).forCall (fun _ _ => 0) ⟨#[], #[.agg #[.int .i64 0, .int .i64 0, .int .i64 0], .agg #[.int .i64 0, .int .i64 0, .int .i64 0]], []⟩).memory :=
  laidMet_of_run' 8 (by kernel_rfl) (by kernel_rfl)
theorem reads (os : Os) {H : Type} (enc : TypeId × Value → H) : ∃ places, DataW.whole enc Tryd.prog ((laidWorld os).forCall (fun _ _ => 0) ⟨#[], #[.agg #[.int .i64 0, .int .i64 0, .int .i64 0], .agg #[.int .i64 0, .int .i64 0, .int .i64 0]], []⟩).memory Tryd.f6.params.toList Rows.julianOrderSpec.vars false #[.agg #[.int .i64 0, .int .i64 0, .int .i64 0], .agg #[.int .i64 0, .int .i64 0, .int .i64 0]].toList 8 = some ([.agg [.lit (.int .i64 0), .lit (.int .i64 0), .lit (.int .i64 0)], .agg [.lit (.int .i64 0), .lit (.int .i64 0), .lit (.int .i64 0)]], [], places) :=
  ⟨[], by kernel_rfl⟩

set_option maxRecDepth 100000 in
theorem lifted (os : Os) (started : os.Started) (H : Type) (enc : TypeId × Value → H) (F : Stop.Interp) :
    ReturnsInHanded {} Tryd.checked os 6 .any ((OpenSpec.ofChange Rows.julianOrderSpec).preRow enc Tryd.prog Tryd.f6 Rows.julianOrderRow.domain false Rows.julianOrderRow.laid) (((OpenSpec.ofChange Rows.julianOrderSpec).at F).post enc Tryd.prog Tryd.f6 false true false false) := by
  obtain ⟨places, hx⟩ := reads os enc
  refine returnsInHanded_of_row (C := Tryd.checked) (s := OpenSpec.ofChange Rows.julianOrderSpec) own started (by kernel_rfl) Tryd.func6
    (witness_row_at (enc := enc) (C := Tryd.checked) false (laidWorld os) #[.agg #[.int .i64 0, .int .i64 0, .int .i64 0], .agg #[.int .i64 0, .int .i64 0, .int .i64 0]] rfl (by kernel_rfl) (by kernel_rfl) (by kernel_rfl)
      (OpenSpec.preRow_of_cond 8 hx (by kernel_rfl) (fun k hk => by cases hk) (by kernel_rfl) (laid_met os))) ?_
  intro W base args ds gs before hval hW _ _ _ hL _ _
  exact contract H enc W base args ds gs before hval hW hL

theorem said : Rows.JulianOrderSaid :=
  OpenClaim.holds_of_cond 6 Tryd.f6 rfl rfl rfl rfl rfl rfl rfl ⟨rfl, rfl, rfl, rfl, rfl⟩ rfl rfl rfl rfl rfl (by kernel_rfl) Tryd.func6 (by kernel_rfl)
    (of_decide_eq_true (by kernel_rfl)) (by unfold Func.isWrapper; first | (rw [if_pos (by decide +kernel)]; kernel_rfl) | (rw [if_neg (by decide +kernel)]; exact ⟨rfl, rfl⟩))
    (fun os started H enc _ F => by rw [OpenClaim.pre_eq_preRow]; exact lifted os started H enc F)

theorem plain (f : FuncId) (fn : Func) (hf : Tryd.pinned.checked.prog.funcNamed "computus/computuslaw02.JulianOrder" = some f) (hfn : Tryd.pinned.checked.prog.funcs[f]? = some fn) :
    false = Tryd.pinned.checked.prog.looks [] ∧ ∀ (j : Nat) t, fn.params[j]? = some t → Tryd.pinned.checked.prog.wantsStandIn t = false := by
  obtain rfl : f = 6 := Option.some.inj ((show Tryd.prog.funcNamed "computus/computuslaw02.JulianOrder" = some 6 by kernel_rfl).symm.trans hf) |>.symm
  obtain rfl : fn = Tryd.f6 := (Option.some.inj (Tryd.func6.symm.trans hfn)).symm
  refine ⟨by kernel_rfl, fun j t ht => ?_⟩
  rw [Tryd.params6] at ht
  have hm := Array.mem_of_getElem? ht
  simp only [List.mem_toArray, List.mem_cons, List.not_mem_nil, or_false] at hm
  rcases hm with rfl | rfl
  · exact (show Tryd.prog.wantsStandIn 23 = false by kernel_rfl)
  · exact (show Tryd.prog.wantsStandIn 23 = false by kernel_rfl)

theorem card : Rows.JulianOrderCardSaid :=
  Claim7.holds_tied_plain_at .later [] _ _ _ _ said (fun _ h => by cases h) (by kernel_rfl) (fun _ h => by cases h) julianOrder_row_tie rfl ⟨rfl, rfl⟩ (by kernel_rfl) rfl plain (by kernel_rfl)
#print axioms card
end Go.Proofs.YtmdeeofeikdeeaaDoor.julianOrder
