/-
  The law 'JulianMonths' answers true for every input, and each argument reads afterwards as it read before; the package-level variables start as the program's text lays them (the card ties that). No other condition.
  The frame follows the kit's own examples; the walk is ours.
-/
import Derived.Test.YtmdeeofeikdeeaaDoorCards
import Derived.Test.YtmdeeofeikdeeaaDoorTie
import Derived.Test.YtmdeeofeikdeeaaDoorLaid
import Derived.WalkKit
import Derived.ProofKit
import Derived.OpenShut
import Derived.ShutString
import Derived.ChangeOld
import Derived.Below
import Derived.Deep.DeepHandedRow
import Derived.Lib.SmallJoins
namespace Go.Proofs.YtmdeeofeikdeeaaDoor.julianMonths
open Go.ChangeShapes Go.WideShapes Go.ChangeAt Go.RowKit Go.Joins
open Go.ChangeMaps (open_string shut_string)
set_option linter.unusedVariables false

theorem own : ownKnob Tryd.prog.godebug = none := by kernel_rfl

theorem mon11 {b : Int} (h0 : 0 ≤ b) : 0 ≤ b % 11 ∧ b % 11 ≤ 10 := by omega
theorem firstDay {y m : Int} (hy : vIn y = true) (m1 : 1 ≤ m) (m2 : m ≤ 12) : vToN y m 1 = vFirst y + vCum (vLeap y) m ∧ vToE y m 1 = 0 := by
  have h : vValid y m 1 = true := by
    rw [vValid_iff]; have := vLen_in (b := vLeap y) m1 m2; exact ⟨vIn_iff.1 hy, by omega, by omega⟩
  obtain ⟨a, b⟩ := vTo_ok h
  rw [a, b]; unfold vTo; omega
theorem lastDay {y m : Int} (hy : vIn y = true) (m1 : 1 ≤ m) (m2 : m ≤ 12) : vValid y m (vLen (vLeap y) m) = true := by
  rw [vValid_iff]; have := vLen_in (b := vLeap y) m1 m2; exact ⟨vIn_iff.1 hy, by omega, by omega⟩
theorem pastDay {y m : Int} : vValid y m (vLen (vLeap y) m + 1) = false := by
  rw [Bool.eq_false_iff, ne_eq, vValid_iff]; omega
set_option maxRecDepth 100000 in
set_option maxHeartbeats 400000 in
theorem walk (a0 : Int) (a1 : Int) (w : World) (w0 : (Lit.int .i64 a0).wf = true) (w1 : (Lit.int .u8 a1).wf = true) (hL : Hid (LensIn w)) :
    Calls Tryd.prog 8 #[.int .i64 a0, .int .u8 a1] w fun e w' => e = .returned (.bool true) ∧ Below w.heap.size w w' := by
  obtain ⟨hy1, hy2⟩ := bounds_i64 w0
  obtain ⟨hm1, hm2⟩ := bounds_u8 w1
  clear w0 w1
  have HB := Below.refl w.heap.size w
  cases hin : vIn a0
  · have HI := Lib.hid hin
    clear hin
    go_enter Tryd.func8, Tryd.ntmps8
    go_wp2_with (first | (go_at_call 9; refine (awake_c _ (Lib.hid (hL.out.below HB))).mono ?_; rintro e w' ⟨rfl, hw⟩; replace HB := chain HB hw; clear hw) | (go_at_call 15; refine (in_c _ _).mono ?_; rintro e w' ⟨rfl, rfl⟩; rw [HI.out]))
    go_ret
    exact ⟨rfl, HB⟩
  · have HI := Lib.hid hin
    obtain ⟨y1, y2⟩ := vIn_iff.1 hin
    obtain ⟨b1, b2⟩ := mon11 hm1
    obtain ⟨t1, t2⟩ := firstDay hin (m := 1 + a1 % 11) (by omega) (by omega)
    obtain ⟨t3, t4⟩ := firstDay hin (m := 1 + a1 % 11 + 1) (by omega) (by omega)
    rw [vCum_succ (by omega) (by omega)] at t3
    have V1 := Lib.hid (lastDay hin (m := 1 + a1 % 11) (by omega) (by omega))
    have V2 := Lib.hid (@pastDay a0 (1 + a1 % 11))
    have T1 := Lib.hid t1
    have T2 := Lib.hid t2
    have T3 := Lib.hid t3
    have T4 := Lib.hid t4
    obtain ⟨f1, f2⟩ := vFirst_bd (y := a0) (by omega) (by omega)
    have c1 := vCum_le (b := vLeap a0) (m := 1 + a1 % 11) (by omega)
    have l1 := vLen_le (vLeap a0) (1 + a1 % 11)
    have P := lp01 (vLeap a0)
    have z1 : (vFirst a0 + (vCum (vLeap a0) (1 + a1 % 11) + vLen (vLeap a0) (1 + a1 % 11)) - (vFirst a0 + vCum (vLeap a0) (1 + a1 % 11)) == vLen (vLeap a0) (1 + a1 % 11)) = true := by simp; omega
    clear hin t1 t2 t3 t4
    go_enter Tryd.func8, Tryd.ntmps8
    go_wp2_with (first | (go_at_call 9; refine (awake_c _ (Lib.hid (hL.out.below HB))).mono ?_; rintro e w' ⟨rfl, hw⟩; replace HB := chain HB hw; clear hw) | (go_at_call 15; refine (in_c _ _).mono ?_; rintro e w' ⟨rfl, rfl⟩; rw [HI.out]) | (go_at_call 10; refine (to_c _ _ _ _ (Lib.hid (hL.out.below HB))).mono ?_; rintro e w' ⟨rfl, hw⟩; replace HB := chain HB hw; clear hw; first | rw [T1.out, T2.out] | rw [T3.out, T4.out]) | (go_at_call 19; refine (length_c _ _ _ (Lib.hid (hL.out.below HB))).mono ?_; rintro e w' ⟨rfl, rfl⟩; skip) | (go_at_call 21; refine (valid_c _ _ _ _ (Lib.hid (hL.out.below HB))).mono ?_; rintro e w' ⟨rfl, hw⟩; replace HB := chain HB hw; clear hw; first | rw [V1.out] | rw [V2.out]))
    go_ret
    exact ⟨rfl, HB⟩

theorem contract (H : Type) (enc : TypeId × Value → H) (W : World) (base : Nat) (args : Array Value) (ds gs : List (DataW H)) (before : List MemPlace)
    (hval : ∀ (j : Nat) t v, Tryd.f8.params[j]? = some t → args[j]? = some v → Value.okWide Tryd.prog W .any base t v)
    (hW : DataW.Whole enc Tryd.prog Tryd.f8.params.toList Rows.julianMonthsSpec.vars false W args.toList ds gs before) (hL : laidMetH Tryd.prog Rows.julianMonthsRow.laid W) :
    Calls Tryd.prog 8 args W fun e W' => ∃ v, e = .returned v ∧ Rows.julianMonthsSpec.post enc Tryd.prog Tryd.f8 false true false false W args v W' := by
  have hW' := hW
  obtain ⟨p, q, hA0, hV, rfl, hfz, hnd⟩ := hW
  have hA : DataW.TrodAll enc Tryd.prog W 0 (fun _ => true) true Tryd.f8.params.toList args.toList ds p := hA0
  rw [Tryd.params8] at hA hval
  obtain ⟨v0, vs0, d0, ds0, p0, q0, hargs, rfl, rfl, h0, r0⟩ := trodAll_cons hA
  obtain ⟨v1, vs1, d1, ds1, p1, q1, rfl, rfl, rfl, h1, r1⟩ := trodAll_cons r0
  obtain ⟨rfl, rfl, rfl⟩ := trodAll_nil r1
  obtain rfl : args = #[v0, v1] := by cases args; simp_all
  obtain ⟨rfl, rfl⟩ := trodVars_none hV
  obtain ⟨a0, rfl, rfl, rfl, w0⟩ := open_int Tryd.underlying3 (hval 0 3 v0 rfl rfl) h0
  obtain ⟨a1, rfl, rfl, rfl, w1⟩ := open_int Tryd.underlying5 (hval 1 5 v1 rfl rfl) h1
  clear hA0
  refine (walk a0 a1 W w0 w1 (Lib.hid (lensIn_of_laid (W := W) hL))).mono fun e W' ⟨he, bel⟩ => ?_
  subst he
  exact ⟨_, rfl, _, _, _, [], _, [], hW', trodAll_mk1 (shut_bool Tryd.underlying4 _), (trodAll_cons_mk (shut_int Tryd.underlying3 w0) (trodAll_cons_mk (shut_int Tryd.underlying5 w1) trodAll_mk0)), rfl, bel.frame _, fun h => by cases h⟩

noncomputable def laidWorld (os : Os) : World :=
  { World.holding Tryd.prog os ⟨#[], #[], []⟩ with heap := (World.holding Tryd.prog os ⟨#[], #[], []⟩).heap.modify 0 fun
      | .cells _ t frozen => .cells #[.int .i64 31, .int .i64 28, .int .i64 31, .int .i64 30, .int .i64 31, .int .i64 30, .int .i64 31, .int .i64 31, .int .i64 30, .int .i64 31, .int .i64 30, .int .i64 31] t frozen
      | o => o }
theorem laid_met (os : Os) : laidMet Tryd.prog Rows.julianMonthsRow.laid ((laidWorld os).forCall (fun _ _ => 0) ⟨#[], #[.int .i64 0, .int .u8 0], []⟩).memory :=
  laidMet_of_run' 8 (by kernel_rfl) (by kernel_rfl)
theorem reads (os : Os) {H : Type} (enc : TypeId × Value → H) : ∃ places, DataW.whole enc Tryd.prog ((laidWorld os).forCall (fun _ _ => 0) ⟨#[], #[.int .i64 0, .int .u8 0], []⟩).memory Tryd.f8.params.toList Rows.julianMonthsSpec.vars false #[.int .i64 0, .int .u8 0].toList 8 = some ([.lit (.int .i64 0), .lit (.int .u8 0)], [], places) :=
  ⟨[], by kernel_rfl⟩

set_option maxRecDepth 100000 in
theorem lifted (os : Os) (started : os.Started) (H : Type) (enc : TypeId × Value → H) (F : Stop.Interp) :
    ReturnsInHanded {} Tryd.checked os 8 .any ((OpenSpec.ofChange Rows.julianMonthsSpec).preRow enc Tryd.prog Tryd.f8 Rows.julianMonthsRow.domain false Rows.julianMonthsRow.laid) (((OpenSpec.ofChange Rows.julianMonthsSpec).at F).post enc Tryd.prog Tryd.f8 false true false false) := by
  obtain ⟨places, hx⟩ := reads os enc
  refine returnsInHanded_of_row (C := Tryd.checked) (s := OpenSpec.ofChange Rows.julianMonthsSpec) own started (by kernel_rfl) Tryd.func8
    (witness_row_at (enc := enc) (C := Tryd.checked) false (laidWorld os) #[.int .i64 0, .int .u8 0] rfl (by kernel_rfl) (by kernel_rfl) (by kernel_rfl)
      (OpenSpec.preRow_of_cond 8 hx (by kernel_rfl) (fun k hk => by cases hk) (by kernel_rfl) (laid_met os))) ?_
  intro W base args ds gs before hval hW _ _ _ hL _ _
  exact contract H enc W base args ds gs before hval hW hL

theorem said : Rows.JulianMonthsSaid :=
  OpenClaim.holds_of_cond 8 Tryd.f8 rfl rfl rfl rfl rfl rfl rfl ⟨rfl, rfl, rfl, rfl, rfl⟩ rfl rfl rfl rfl rfl (by kernel_rfl) Tryd.func8 (by kernel_rfl)
    (of_decide_eq_true (by kernel_rfl)) (by unfold Func.isWrapper; first | (rw [if_pos (by decide +kernel)]; kernel_rfl) | (rw [if_neg (by decide +kernel)]; exact ⟨rfl, rfl⟩))
    (fun os started H enc _ F => by rw [OpenClaim.pre_eq_preRow]; exact lifted os started H enc F)

theorem plain (f : FuncId) (fn : Func) (hf : Tryd.pinned.checked.prog.funcNamed "computus/computuslaw02.JulianMonths" = some f) (hfn : Tryd.pinned.checked.prog.funcs[f]? = some fn) :
    false = Tryd.pinned.checked.prog.looks [] ∧ ∀ (j : Nat) t, fn.params[j]? = some t → Tryd.pinned.checked.prog.wantsStandIn t = false := by
  obtain rfl : f = 8 := Option.some.inj ((show Tryd.prog.funcNamed "computus/computuslaw02.JulianMonths" = some 8 by kernel_rfl).symm.trans hf) |>.symm
  obtain rfl : fn = Tryd.f8 := (Option.some.inj (Tryd.func8.symm.trans hfn)).symm
  refine ⟨by kernel_rfl, fun j t ht => ?_⟩
  rw [Tryd.params8] at ht
  have hm := Array.mem_of_getElem? ht
  simp only [List.mem_toArray, List.mem_cons, List.not_mem_nil, or_false] at hm
  rcases hm with rfl | rfl
  · exact (show Tryd.prog.wantsStandIn 3 = false by kernel_rfl)
  · exact (show Tryd.prog.wantsStandIn 5 = false by kernel_rfl)

theorem card : Rows.JulianMonthsCardSaid :=
  Claim7.holds_tied_plain_at .later [] _ _ _ _ said (fun _ h => by cases h) (by kernel_rfl) (fun _ h => by cases h) julianMonths_row_tie rfl ⟨rfl, rfl⟩ (by kernel_rfl) rfl plain (by kernel_rfl)
#print axioms card
end Go.Proofs.YtmdeeofeikdeeaaDoor.julianMonths
