/-
  The law 'WeekdayNearest' answers true for every input, and each argument reads afterwards as it read before; the package-level variables start as the program's text lays them (the card ties that). No other condition.
  The frame follows the kit's own examples; the walk is ours.
-/
import Derived.Test.YtckkllbnmnpafaaDoorCards
import Derived.Test.YtckkllbnmnpafaaDoorTie
import Derived.Test.YtckkllbnmnpafaaDoorLaid
import Derived.WalkKit
import Derived.ProofKit
import Derived.OpenShut
import Derived.ShutString
import Derived.ChangeOld
import Derived.Below
import Derived.Deep.DeepHandedRow
import Derived.Lib.SmallJoins
namespace Go.Proofs.YtckkllbnmnpafaaDoor.weekdayNearest
open Go.ChangeShapes Go.WideShapes Go.ChangeAt Go.RowKit Go.Joins
open Go.ChangeMaps (open_string shut_string)
set_option linter.unusedVariables false

theorem own : ownKnob Tryd.prog.godebug = none := by kernel_rfl

theorem vErr_ok {n k : Int} (h0 : 0 ≤ k) (h1 : k ≤ 6) (h2 : -1099511627776 ≤ n) (h3 : n ≤ 1099511627776) : vErr n k = 0 := by unfold vErr; rw [if_neg (by omega), if_neg (by omega)]
theorem sevenOff (x : Int) : (x - 7) % 7 = x % 7 := by omega
set_option maxRecDepth 100000 in
set_option maxHeartbeats 400000 in
theorem walk (a0 : Int) (a1 : Int) (w : World) (w0 : (Lit.int .i64 a0).wf = true) (w1 : (Lit.int .i64 a1).wf = true) (hL : Hid (NamesIn w)) :
    Calls Tryd.prog 4 #[.int .i64 a0, .int .i64 a1] w fun e w' => e = .returned (.bool true) ∧ Below w.heap.size w w' := by
  obtain ⟨ha1, ha2⟩ := bounds_i64 w0
  clear w0 w1
  have HB := Below.refl w.heap.size w
  by_cases h : a1 < 0
  · go_enter Tryd.func4, Tryd.ntmps4
    go_wp2_with (first | (go_at_call 8; refine (awake_c _ (Lib.hid (hL.out.below HB))).mono ?_; rintro e w' ⟨rfl, hw⟩; replace HB := chain HB hw; clear hw))
    go_ret
    exact ⟨rfl, HB⟩
  by_cases h : 6 < a1
  · go_enter Tryd.func4, Tryd.ntmps4
    go_wp2_with (first | (go_at_call 8; refine (awake_c _ (Lib.hid (hL.out.below HB))).mono ?_; rintro e w' ⟨rfl, hw⟩; replace HB := chain HB hw; clear hw))
    go_ret
    exact ⟨rfl, HB⟩
  by_cases h : a0 < -1099511627776
  · go_enter Tryd.func4, Tryd.ntmps4
    go_wp2_with (first | (go_at_call 8; refine (awake_c _ (Lib.hid (hL.out.below HB))).mono ?_; rintro e w' ⟨rfl, hw⟩; replace HB := chain HB hw; clear hw))
    go_ret
    exact ⟨rfl, HB⟩
  by_cases h : 1099511627776 < a0
  · go_enter Tryd.func4, Tryd.ntmps4
    go_wp2_with (first | (go_at_call 8; refine (awake_c _ (Lib.hid (hL.out.below HB))).mono ?_; rintro e w' ⟨rfl, hw⟩; replace HB := chain HB hw; clear hw))
    go_ret
    exact ⟨rfl, HB⟩
  have h0 : 0 ≤ a1 := by omega
  have h1 : a1 ≤ 6 := by omega
  have h2 : -1099511627776 ≤ a0 := by omega
  have h3 : a0 ≤ 1099511627776 := by omega
  have he := vErr_ok h0 h1 h2 h3
  have HE := Lib.hid he
  by_cases hw : a0 % 7 = a1
  · have HA := Lib.hid (show vAfter a0 a1 = a0 by unfold vAfter; rw [if_pos he]; omega)
    have HC := Lib.hid (show vBefore a0 a1 = a0 by unfold vBefore; rw [if_pos he]; omega)
    have HM := Lib.hid hw
    clear he hw
    go_enter Tryd.func4, Tryd.ntmps4
    go_wp2_with (first | (go_at_call 8; refine (awake_c _ (Lib.hid (hL.out.below HB))).mono ?_; rintro e w' ⟨rfl, hw⟩; replace HB := chain HB hw; clear hw) | (go_at_call 9; refine (after_c _ _ _).mono ?_; rintro e w' ⟨rfl, hw⟩; replace HB := chain HB hw; clear hw; rw [HA.out, HE.out]) | (go_at_call 11; refine (before_c _ _ _).mono ?_; rintro e w' ⟨rfl, hw⟩; replace HB := chain HB hw; clear hw; rw [HC.out, HE.out]) | (go_at_call 15; refine (of_c _ _ (by omega) (by omega)).mono ?_; rintro e w' ⟨rfl, hw⟩; replace HB := chain HB hw; clear hw; rw [HM.out]))
    go_ret
    exact ⟨rfl, HB⟩
  · obtain ⟨x, hx, x1, x2, x3, hy⟩ : ∃ x, vAfter a0 a1 = x ∧ a0 < x ∧ x ≤ a0 + 6 ∧ x % 7 = a1 ∧ vBefore a0 a1 = x - 7 := ⟨_, rfl, by unfold vAfter; rw [if_pos he]; omega, by unfold vAfter; rw [if_pos he]; omega, by unfold vAfter; rw [if_pos he]; omega, by unfold vAfter vBefore; rw [if_pos he, if_pos he]; omega⟩
    have HA := Lib.hid hx
    have HC := Lib.hid hy
    have HM := Lib.hid x3
    have e1 : (x == x - 7) = false := by simp; omega
    have e2 : (a0 % 7 == a1) = false := by simpa using hw
    have b1 : 0 ≤ a0 % 7 := by omega
    clear he hw hx hy x3
    go_enter Tryd.func4, Tryd.ntmps4
    go_wp2_with (first | (go_at_call 8; refine (awake_c _ (Lib.hid (hL.out.below HB))).mono ?_; rintro e w' ⟨rfl, hw⟩; replace HB := chain HB hw; clear hw) | (go_at_call 9; refine (after_c _ _ _).mono ?_; rintro e w' ⟨rfl, hw⟩; replace HB := chain HB hw; clear hw; rw [HA.out, HE.out]) | (go_at_call 11; refine (before_c _ _ _).mono ?_; rintro e w' ⟨rfl, hw⟩; replace HB := chain HB hw; clear hw; rw [HC.out, HE.out]) | (go_at_call 15; refine (of_c _ _ (by omega) (by omega)).mono ?_; rintro e w' ⟨rfl, hw⟩; replace HB := chain HB hw; clear hw; first | rw [HM.out] | rw [sevenOff, HM.out] | skip))
    go_ret
    exact ⟨rfl, HB⟩

theorem contract (H : Type) (enc : TypeId × Value → H) (W : World) (base : Nat) (args : Array Value) (ds gs : List (DataW H)) (before : List MemPlace)
    (hval : ∀ (j : Nat) t v, Tryd.f4.params[j]? = some t → args[j]? = some v → Value.okWide Tryd.prog W .any base t v)
    (hW : DataW.Whole enc Tryd.prog Tryd.f4.params.toList Rows.weekdayNearestSpec.vars false W args.toList ds gs before) (hL : laidMetH Tryd.prog Rows.weekdayNearestRow.laid W) :
    Calls Tryd.prog 4 args W fun e W' => ∃ v, e = .returned v ∧ Rows.weekdayNearestSpec.post enc Tryd.prog Tryd.f4 false true false false W args v W' := by
  have hW' := hW
  obtain ⟨p, q, hA0, hV, rfl, hfz, hnd⟩ := hW
  have hA : DataW.TrodAll enc Tryd.prog W 0 (fun _ => true) true Tryd.f4.params.toList args.toList ds p := hA0
  rw [Tryd.params4] at hA hval
  obtain ⟨v0, vs0, d0, ds0, p0, q0, hargs, rfl, rfl, h0, r0⟩ := trodAll_cons hA
  obtain ⟨v1, vs1, d1, ds1, p1, q1, rfl, rfl, rfl, h1, r1⟩ := trodAll_cons r0
  obtain ⟨rfl, rfl, rfl⟩ := trodAll_nil r1
  obtain rfl : args = #[v0, v1] := by cases args; simp_all
  obtain ⟨rfl, rfl⟩ := trodVars_none hV
  obtain ⟨a0, rfl, rfl, rfl, w0⟩ := open_int Tryd.underlying3 (hval 0 3 v0 rfl rfl) h0
  obtain ⟨a1, rfl, rfl, rfl, w1⟩ := open_int Tryd.underlying3 (hval 1 3 v1 rfl rfl) h1
  clear hA0
  refine (walk a0 a1 W w0 w1 (Lib.hid (namesIn_of_laid (W := W) hL))).mono fun e W' ⟨he, bel⟩ => ?_
  subst he
  exact ⟨_, rfl, _, _, _, [], _, [], hW', trodAll_mk1 (shut_bool Tryd.underlying4 _), (trodAll_cons_mk (shut_int Tryd.underlying3 w0) (trodAll_cons_mk (shut_int Tryd.underlying3 w1) trodAll_mk0)), rfl, bel.frame _, fun h => by cases h⟩

noncomputable def laidWorld (os : Os) : World :=
  { World.holding Tryd.prog os ⟨#[], #[], []⟩ with heap := (World.holding Tryd.prog os ⟨#[], #[], []⟩).heap.modify 0 fun
      | .cells _ t frozen => .cells #[.string ⟨#[115, 117, 110, 100, 97, 121]⟩, .string ⟨#[109, 111, 110, 100, 97, 121]⟩, .string ⟨#[116, 117, 101, 115, 100, 97, 121]⟩, .string ⟨#[119, 101, 100, 110, 101, 115, 100, 97, 121]⟩, .string ⟨#[116, 104, 117, 114, 115, 100, 97, 121]⟩, .string ⟨#[102, 114, 105, 100, 97, 121]⟩, .string ⟨#[115, 97, 116, 117, 114, 100, 97, 121]⟩] t frozen
      | o => o }
theorem laid_met (os : Os) : laidMet Tryd.prog Rows.weekdayNearestRow.laid ((laidWorld os).forCall (fun _ _ => 0) ⟨#[], #[.int .i64 0, .int .i64 0], []⟩).memory :=
  laidMet_of_run' 8 (by kernel_rfl) (by kernel_rfl)
theorem reads (os : Os) {H : Type} (enc : TypeId × Value → H) : ∃ places, DataW.whole enc Tryd.prog ((laidWorld os).forCall (fun _ _ => 0) ⟨#[], #[.int .i64 0, .int .i64 0], []⟩).memory Tryd.f4.params.toList Rows.weekdayNearestSpec.vars false #[.int .i64 0, .int .i64 0].toList 8 = some ([.lit (.int .i64 0), .lit (.int .i64 0)], [], places) :=
  ⟨[], by kernel_rfl⟩

set_option maxRecDepth 100000 in
theorem lifted (os : Os) (started : os.Started) (H : Type) (enc : TypeId × Value → H) (F : Stop.Interp) :
    ReturnsInHanded {} Tryd.checked os 4 .any ((OpenSpec.ofChange Rows.weekdayNearestSpec).preRow enc Tryd.prog Tryd.f4 Rows.weekdayNearestRow.domain false Rows.weekdayNearestRow.laid) (((OpenSpec.ofChange Rows.weekdayNearestSpec).at F).post enc Tryd.prog Tryd.f4 false true false false) := by
  obtain ⟨places, hx⟩ := reads os enc
  refine returnsInHanded_of_row (C := Tryd.checked) (s := OpenSpec.ofChange Rows.weekdayNearestSpec) own started (by kernel_rfl) Tryd.func4
    (witness_row_at (enc := enc) (C := Tryd.checked) false (laidWorld os) #[.int .i64 0, .int .i64 0] rfl (by kernel_rfl) (by kernel_rfl) (by kernel_rfl)
      (OpenSpec.preRow_of_cond 8 hx (by kernel_rfl) (fun k hk => by cases hk) (by kernel_rfl) (laid_met os))) ?_
  intro W base args ds gs before hval hW _ _ _ hL _ _
  exact contract H enc W base args ds gs before hval hW hL

theorem said : Rows.WeekdayNearestSaid :=
  OpenClaim.holds_of_cond 4 Tryd.f4 rfl rfl rfl rfl rfl rfl rfl ⟨rfl, rfl, rfl, rfl, rfl⟩ rfl rfl rfl rfl rfl (by kernel_rfl) Tryd.func4 (by kernel_rfl)
    (of_decide_eq_true (by kernel_rfl)) (by unfold Func.isWrapper; first | (rw [if_pos (by decide +kernel)]; kernel_rfl) | (rw [if_neg (by decide +kernel)]; exact ⟨rfl, rfl⟩))
    (fun os started H enc _ F => by rw [OpenClaim.pre_eq_preRow]; exact lifted os started H enc F)

theorem plain (f : FuncId) (fn : Func) (hf : Tryd.pinned.checked.prog.funcNamed "computus/computuslaw04.WeekdayNearest" = some f) (hfn : Tryd.pinned.checked.prog.funcs[f]? = some fn) :
    false = Tryd.pinned.checked.prog.looks [] ∧ ∀ (j : Nat) t, fn.params[j]? = some t → Tryd.pinned.checked.prog.wantsStandIn t = false := by
  obtain rfl : f = 4 := Option.some.inj ((show Tryd.prog.funcNamed "computus/computuslaw04.WeekdayNearest" = some 4 by kernel_rfl).symm.trans hf) |>.symm
  obtain rfl : fn = Tryd.f4 := (Option.some.inj (Tryd.func4.symm.trans hfn)).symm
  refine ⟨by kernel_rfl, fun j t ht => ?_⟩
  rw [Tryd.params4] at ht
  have hm := Array.mem_of_getElem? ht
  simp only [List.mem_toArray, List.mem_cons, List.not_mem_nil, or_false] at hm
  rcases hm with rfl | rfl
  · exact (show Tryd.prog.wantsStandIn 3 = false by kernel_rfl)
  · exact (show Tryd.prog.wantsStandIn 3 = false by kernel_rfl)

theorem card : Rows.WeekdayNearestCardSaid :=
  Claim7.holds_tied_plain_at .later [] _ _ _ _ said (fun _ h => by cases h) (by kernel_rfl) (fun _ h => by cases h) weekdayNearest_row_tie rfl ⟨rfl, rfl⟩ (by kernel_rfl) rfl plain (by kernel_rfl)
#print axioms card
end Go.Proofs.YtckkllbnmnpafaaDoor.weekdayNearest
