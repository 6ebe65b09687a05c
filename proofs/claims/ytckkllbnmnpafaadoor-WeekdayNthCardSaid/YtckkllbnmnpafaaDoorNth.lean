/-
  The law 'WeekdayNth' answers true for every input, and each argument reads afterwards as it read before; the package-level variables start as the program's text lays them (the card ties that). No other condition.
  The frame follows the kit's own examples; the walk is ours.
-/
import Derived.Test.YtckkllbnmnpafaaDoorCards
import Derived.Test.YtckkllbnmnpafaaDoorTie
import Derived.Test.YtckkllbnmnpafaaDoorLaid
import Derived.WalkKit
import Derived.ProofKit
import Derived.OpenShut
import Derived.ShutString
import Derived.ChangeOld
import Derived.Below
import Derived.Deep.DeepHandedRow
import Derived.Lib.SmallJoins
namespace Go.Proofs.YtckkllbnmnpafaaDoor.weekdayNth
open Go.ChangeShapes Go.WideShapes Go.ChangeAt Go.RowKit Go.Joins
open Go.ChangeMaps (open_string shut_string)
set_option linter.unusedVariables false

theorem own : ownKnob Tryd.prog.godebug = none := by kernel_rfl

theorem vErr_ok {n k : Int} (h0 : 0 ≤ k) (h1 : k ≤ 6) (h2 : -1099511627776 ≤ n) (h3 : n ≤ 1099511627776) : vErr n k = 0 := by unfold vErr; rw [if_neg (by omega), if_neg (by omega)]
theorem nthUp {n k c : Int} (h0 : 0 ≤ k) (h1 : k ≤ 6) (h2 : -1099511627776 ≤ n) (h3 : n ≤ 1099511627776) (c1 : 1 ≤ c) (c2 : c ≤ 1000) : vNth n k c = vAfter n k + 7 * (c - 1) ∧ vNthE n k c = 0 :=
  have hg : ¬ (k < 0 ∨ 6 < k ∨ c = 0 ∨ c < -1000 ∨ 1000 < c) := by omega
  ⟨vNth_pos hg (vErr_ok h0 h1 h2 h3) (by omega), by rw [vNth_err hg]; exact vErr_ok h0 h1 h2 h3⟩
theorem nthDown {n k c : Int} (h0 : 0 ≤ k) (h1 : k ≤ 6) (h2 : -1099511627776 ≤ n) (h3 : n ≤ 1099511627776) (c1 : c ≤ -1) (c2 : -1000 ≤ c) : vNth n k c = vBefore n k + 7 * (c + 1) ∧ vNthE n k c = 0 :=
  have hg : ¬ (k < 0 ∨ 6 < k ∨ c = 0 ∨ c < -1000 ∨ 1000 < c) := by omega
  ⟨vNth_neg hg (vErr_ok h0 h1 h2 h3) (by omega), by rw [vNth_err hg]; exact vErr_ok h0 h1 h2 h3⟩
set_option maxRecDepth 100000 in
set_option maxHeartbeats 400000 in
theorem walk (a0 : Int) (a1 : Int) (a2 : Int) (w : World) (w0 : (Lit.int .i64 a0).wf = true) (w1 : (Lit.int .i64 a1).wf = true) (w2 : (Lit.int .i16 a2).wf = true) (hL : Hid (NamesIn w)) :
    Calls Tryd.prog 6 #[.int .i64 a0, .int .i64 a1, .int .i16 a2] w fun e w' => e = .returned (.bool true) ∧ Below w.heap.size w w' := by
  obtain ⟨hc1, hc2⟩ := bounds_i16 w2
  clear w0 w1 w2
  have HB := Below.refl w.heap.size w
  by_cases h : a1 < 0
  · go_enter Tryd.func6, Tryd.ntmps6
    go_wp2_with (first | (go_at_call 8; refine (awake_c _ (Lib.hid (hL.out.below HB))).mono ?_; rintro e w' ⟨rfl, hw⟩; replace HB := chain HB hw; clear hw))
    go_ret
    exact ⟨rfl, HB⟩
  by_cases h : 6 < a1
  · go_enter Tryd.func6, Tryd.ntmps6
    go_wp2_with (first | (go_at_call 8; refine (awake_c _ (Lib.hid (hL.out.below HB))).mono ?_; rintro e w' ⟨rfl, hw⟩; replace HB := chain HB hw; clear hw))
    go_ret
    exact ⟨rfl, HB⟩
  by_cases h : a0 < -549755813888
  · go_enter Tryd.func6, Tryd.ntmps6
    go_wp2_with (first | (go_at_call 8; refine (awake_c _ (Lib.hid (hL.out.below HB))).mono ?_; rintro e w' ⟨rfl, hw⟩; replace HB := chain HB hw; clear hw))
    go_ret
    exact ⟨rfl, HB⟩
  by_cases h : 549755813888 < a0
  · go_enter Tryd.func6, Tryd.ntmps6
    go_wp2_with (first | (go_at_call 8; refine (awake_c _ (Lib.hid (hL.out.below HB))).mono ?_; rintro e w' ⟨rfl, hw⟩; replace HB := chain HB hw; clear hw))
    go_ret
    exact ⟨rfl, HB⟩
  by_cases h : a2 < 1
  · go_enter Tryd.func6, Tryd.ntmps6
    go_wp2_with (first | (go_at_call 8; refine (awake_c _ (Lib.hid (hL.out.below HB))).mono ?_; rintro e w' ⟨rfl, hw⟩; replace HB := chain HB hw; clear hw))
    go_ret
    exact ⟨rfl, HB⟩
  by_cases h : 999 < a2
  · go_enter Tryd.func6, Tryd.ntmps6
    go_wp2_with (first | (go_at_call 8; refine (awake_c _ (Lib.hid (hL.out.below HB))).mono ?_; rintro e w' ⟨rfl, hw⟩; replace HB := chain HB hw; clear hw))
    go_ret
    exact ⟨rfl, HB⟩
  have h0 : 0 ≤ a1 := by omega
  have h1 : a1 ≤ 6 := by omega
  have h2 : -549755813888 ≤ a0 := by omega
  have h3 : a0 ≤ 549755813888 := by omega
  have h4 : 1 ≤ a2 := by omega
  have h5 : a2 ≤ 999 := by omega
  obtain ⟨N1, E1⟩ := nthUp (n := a0) (k := a1) (c := a2) h0 h1 (by omega) (by omega) h4 (by omega)
  obtain ⟨N2, E2⟩ := nthUp (n := a0) (k := a1) (c := a2 + 1) h0 h1 (by omega) (by omega) (by omega) (by omega)
  obtain ⟨N3, E3⟩ := nthUp (n := a0) (k := a1) (c := 1) h0 h1 (by omega) (by omega) (by omega) (by omega)
  have he := vErr_ok (n := a0) (k := a1) h0 h1 (by omega) (by omega)
  obtain ⟨x, hx, x1, x2, x3⟩ : ∃ x, vAfter a0 a1 = x ∧ a0 ≤ x ∧ x ≤ a0 + 6 ∧ x % 7 = a1 := ⟨_, rfl, by unfold vAfter; rw [if_pos he]; omega, by unfold vAfter; rw [if_pos he]; omega, by unfold vAfter; rw [if_pos he]; omega⟩
  obtain ⟨N4, E4⟩ := nthDown (n := x - 1) (k := a1) (c := -a2) h0 h1 (by omega) (by omega) (by omega) (by omega)
  have he4 := vErr_ok (n := x - 1) (k := a1) h0 h1 (by omega) (by omega)
  have N5 : vNth (x - 1) a1 (-a2) = x - 7 * a2 := by rw [N4]; unfold vBefore; rw [if_pos he4]; omega
  have N6 : vNth a0 a1 1 = x := by rw [N3, hx]; omega
  have N7 : vNth a0 a1 a2 = x + 7 * (a2 - 1) := by rw [N1, hx]
  have N8 : vNth a0 a1 (a2 + 1) = x + 7 * a2 := by rw [N2, hx]; omega
  have M1 := Lib.hid N7
  have M2 := Lib.hid N8
  have M3 := Lib.hid N6
  have M4 := Lib.hid N5
  have F1 := Lib.hid E1
  have F2 := Lib.hid E2
  have F3 := Lib.hid E3
  have F4 := Lib.hid E4
  have t1 : (x + 7 * a2 - (x + 7 * (a2 - 1)) == 7) = true := by simp; omega
  clear N1 N2 N3 N4 N5 N6 N7 N8 E1 E2 E3 E4 he he4 hx x3
  go_enter Tryd.func6, Tryd.ntmps6
  go_wp2_with (first | (go_at_call 8; refine (awake_c _ (Lib.hid (hL.out.below HB))).mono ?_; rintro e w' ⟨rfl, hw⟩; replace HB := chain HB hw; clear hw) | (go_at_call 13; refine (nth_c _ _ _ _).mono ?_; rintro e w' ⟨rfl, hw⟩; replace HB := chain HB hw; clear hw; first | rw [M1.out, F1.out] | rw [M2.out, F2.out] | rw [M3.out, F3.out] | rw [M4.out, F4.out]))
  go_ret
  exact ⟨rfl, HB⟩

theorem contract (H : Type) (enc : TypeId × Value → H) (W : World) (base : Nat) (args : Array Value) (ds gs : List (DataW H)) (before : List MemPlace)
    (hval : ∀ (j : Nat) t v, Tryd.f6.params[j]? = some t → args[j]? = some v → Value.okWide Tryd.prog W .any base t v)
    (hW : DataW.Whole enc Tryd.prog Tryd.f6.params.toList Rows.weekdayNthSpec.vars false W args.toList ds gs before) (hL : laidMetH Tryd.prog Rows.weekdayNthRow.laid W) :
    Calls Tryd.prog 6 args W fun e W' => ∃ v, e = .returned v ∧ Rows.weekdayNthSpec.post enc Tryd.prog Tryd.f6 false true false false W args v W' := by
  have hW' := hW
  obtain ⟨p, q, hA0, hV, rfl, hfz, hnd⟩ := hW
  have hA : DataW.TrodAll enc Tryd.prog W 0 (fun _ => true) true Tryd.f6.params.toList args.toList ds p := hA0
  rw [Tryd.params6] at hA hval
  obtain ⟨v0, vs0, d0, ds0, p0, q0, hargs, rfl, rfl, h0, r0⟩ := trodAll_cons hA
  obtain ⟨v1, vs1, d1, ds1, p1, q1, rfl, rfl, rfl, h1, r1⟩ := trodAll_cons r0
  obtain ⟨v2, vs2, d2, ds2, p2, q2, rfl, rfl, rfl, h2, r2⟩ := trodAll_cons r1
  obtain ⟨rfl, rfl, rfl⟩ := trodAll_nil r2
  obtain rfl : args = #[v0, v1, v2] := by cases args; simp_all
  obtain ⟨rfl, rfl⟩ := trodVars_none hV
  obtain ⟨a0, rfl, rfl, rfl, w0⟩ := open_int Tryd.underlying3 (hval 0 3 v0 rfl rfl) h0
  obtain ⟨a1, rfl, rfl, rfl, w1⟩ := open_int Tryd.underlying3 (hval 1 3 v1 rfl rfl) h1
  obtain ⟨a2, rfl, rfl, rfl, w2⟩ := open_int Tryd.underlying36 (hval 2 36 v2 rfl rfl) h2
  clear hA0
  refine (walk a0 a1 a2 W w0 w1 w2 (Lib.hid (namesIn_of_laid (W := W) hL))).mono fun e W' ⟨he, bel⟩ => ?_
  subst he
  exact ⟨_, rfl, _, _, _, [], _, [], hW', trodAll_mk1 (shut_bool Tryd.underlying4 _), (trodAll_cons_mk (shut_int Tryd.underlying3 w0) (trodAll_cons_mk (shut_int Tryd.underlying3 w1) (trodAll_cons_mk (shut_int Tryd.underlying36 w2) trodAll_mk0))), rfl, bel.frame _, fun h => by cases h⟩

noncomputable def laidWorld (os : Os) : World :=
  { World.holding Tryd.prog os ⟨#[], #[], []⟩ with heap := (World.holding Tryd.prog os ⟨#[], #[], []⟩).heap.modify 0 fun
      | .cells _ t frozen => .cells #[.string ⟨#[115, 117, 110, 100, 97, 121]⟩, .string ⟨#[109, 111, 110, 100, 97, 121]⟩, .string ⟨#[116, 117, 101, 115, 100, 97, 121]⟩, .string ⟨#[119, 101, 100, 110, 101, 115, 100, 97, 121]⟩, .string ⟨#[116, 104, 117, 114, 115, 100, 97, 121]⟩, .string ⟨#[102, 114, 105, 100, 97, 121]⟩, .string ⟨#[115, 97, 116, 117, 114, 100, 97, 121]⟩] t frozen
      | o => o }
theorem laid_met (os : Os) : laidMet Tryd.prog Rows.weekdayNthRow.laid ((laidWorld os).forCall (fun _ _ => 0) ⟨#[], #[.int .i64 0, .int .i64 0, .int .i16 0], []⟩).memory :=
  laidMet_of_run' 8 (by kernel_rfl) (by kernel_rfl)
theorem reads (os : Os) {H : Type} (enc : TypeId × Value → H) : ∃ places, DataW.whole enc Tryd.prog ((laidWorld os).forCall (fun _ _ => 0) ⟨#[], #[.int .i64 0, .int .i64 0, .int .i16 0], []⟩).memory Tryd.f6.params.toList Rows.weekdayNthSpec.vars false #[.int .i64 0, .int .i64 0, .int .i16 0].toList 8 = some ([.lit (.int .i64 0), .lit (.int .i64 0), .lit (.int .i16 0)], [], places) :=
  ⟨[], by kernel_rfl⟩

set_option maxRecDepth 100000 in
theorem lifted (os : Os) (started : os.Started) (H : Type) (enc : TypeId × Value → H) (F : Stop.Interp) :
    ReturnsInHanded {} Tryd.checked os 6 .any ((OpenSpec.ofChange Rows.weekdayNthSpec).preRow enc Tryd.prog Tryd.f6 Rows.weekdayNthRow.domain false Rows.weekdayNthRow.laid) (((OpenSpec.ofChange Rows.weekdayNthSpec).at F).post enc Tryd.prog Tryd.f6 false true false false) := by
  obtain ⟨places, hx⟩ := reads os enc
  refine returnsInHanded_of_row (C := Tryd.checked) (s := OpenSpec.ofChange Rows.weekdayNthSpec) own started (by kernel_rfl) Tryd.func6
    (witness_row_at (enc := enc) (C := Tryd.checked) false (laidWorld os) #[.int .i64 0, .int .i64 0, .int .i16 0] rfl (by kernel_rfl) (by kernel_rfl) (by kernel_rfl)
      (OpenSpec.preRow_of_cond 8 hx (by kernel_rfl) (fun k hk => by cases hk) (by kernel_rfl) (laid_met os))) ?_
  intro W base args ds gs before hval hW _ _ _ hL _ _
  exact contract H enc W base args ds gs before hval hW hL

theorem said : Rows.WeekdayNthSaid :=
  OpenClaim.holds_of_cond 6 Tryd.f6 rfl rfl rfl rfl rfl rfl rfl ⟨rfl, rfl, rfl, rfl, rfl⟩ rfl rfl rfl rfl rfl (by kernel_rfl) Tryd.func6 (by kernel_rfl)
    (of_decide_eq_true (by kernel_rfl)) (by unfold Func.isWrapper; first | (rw [if_pos (by decide +kernel)]; kernel_rfl) | (rw [if_neg (by decide +kernel)]; exact ⟨rfl, rfl⟩))
    (fun os started H enc _ F => by rw [OpenClaim.pre_eq_preRow]; exact lifted os started H enc F)

theorem plain (f : FuncId) (fn : Func) (hf : Tryd.pinned.checked.prog.funcNamed "computus/computuslaw04.WeekdayNth" = some f) (hfn : Tryd.pinned.checked.prog.funcs[f]? = some fn) :
    false = Tryd.pinned.checked.prog.looks [] ∧ ∀ (j : Nat) t, fn.params[j]? = some t → Tryd.pinned.checked.prog.wantsStandIn t = false := by
  obtain rfl : f = 6 := Option.some.inj ((show Tryd.prog.funcNamed "computus/computuslaw04.WeekdayNth" = some 6 by kernel_rfl).symm.trans hf) |>.symm
  obtain rfl : fn = Tryd.f6 := (Option.some.inj (Tryd.func6.symm.trans hfn)).symm
  refine ⟨by kernel_rfl, fun j t ht => ?_⟩
  rw [Tryd.params6] at ht
  have hm := Array.mem_of_getElem? ht
  simp only [List.mem_toArray, List.mem_cons, List.not_mem_nil, or_false] at hm
  rcases hm with rfl | rfl | rfl
  · exact (show Tryd.prog.wantsStandIn 3 = false by kernel_rfl)
  · exact (show Tryd.prog.wantsStandIn 3 = false by kernel_rfl)
  · exact (show Tryd.prog.wantsStandIn 36 = false by kernel_rfl)

theorem card : Rows.WeekdayNthCardSaid :=
  Claim7.holds_tied_plain_at .later [] _ _ _ _ said (fun _ h => by cases h) (by kernel_rfl) (fun _ h => by cases h) weekdayNth_row_tie rfl ⟨rfl, rfl⟩ (by kernel_rfl) rfl plain (by kernel_rfl)
#print axioms card
end Go.Proofs.YtckkllbnmnpafaaDoor.weekdayNth
