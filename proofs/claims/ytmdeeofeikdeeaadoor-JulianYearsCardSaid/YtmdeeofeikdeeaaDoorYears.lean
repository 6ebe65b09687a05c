/-
  The law 'JulianYears' answers true for every input, and each argument reads afterwards as it read before; the package-level variables start as the program's text lays them (the card ties that). No other condition.
  The frame follows the kit's own examples; the walk is ours.
-/
import Derived.Test.YtmdeeofeikdeeaaDoorCards
import Derived.Test.YtmdeeofeikdeeaaDoorTie
import Derived.Test.YtmdeeofeikdeeaaDoorLaid
import Derived.WalkKit
import Derived.ProofKit
import Derived.OpenShut
import Derived.ShutString
import Derived.ChangeOld
import Derived.Below
import Derived.Deep.DeepHandedRow
import Derived.Lib.SmallJoins
namespace Go.Proofs.YtmdeeofeikdeeaaDoor.julianYears
open Go.ChangeShapes Go.WideShapes Go.ChangeAt Go.RowKit Go.Joins
open Go.ChangeMaps (open_string shut_string)
set_option linter.unusedVariables false

theorem own : ownKnob Tryd.prog.godebug = none := by kernel_rfl

theorem first4 (y : Int) : vFirst (y + 4) = vFirst y + 1461 := by unfold vFirst; omega
theorem vFst_in {y : Int} (h0 : 1 ≤ y) (h1 : y ≤ 1000000000) : vFst y = vFirst y := by unfold vFst; rw [if_pos (vIn_iff.2 ⟨h0, h1⟩)]
theorem vFst_bd {y : Int} : -1 ≤ vFst y ∧ vFst y ≤ 365249999999 := by
  unfold vFst; split
  · rename_i h; have := vIn_iff.1 h; exact vFirst_bd this.1 (by omega)
  · omega
set_option maxRecDepth 100000 in
set_option maxHeartbeats 400000 in
theorem walk (a0 : Int) (w : World) (w0 : (Lit.int .i64 a0).wf = true) (hL : Hid (LensIn w)) :
    Calls Tryd.prog 7 #[.int .i64 a0] w fun e w' => e = .returned (.bool true) ∧ Below w.heap.size w w' := by
  obtain ⟨hy1, hy2⟩ := bounds_i64 w0
  clear w0
  have HB := Below.refl w.heap.size w
  by_cases h : a0 < 1
  · go_enter Tryd.func7, Tryd.ntmps7
    go_wp2_with (first | (go_at_call 9; refine (awake_c _ (Lib.hid (hL.out.below HB))).mono ?_; rintro e w' ⟨rfl, hw⟩; replace HB := chain HB hw; clear hw))
    go_ret
    exact ⟨rfl, HB⟩
  by_cases h : 999999990 < a0
  · go_enter Tryd.func7, Tryd.ntmps7
    go_wp2_with (first | (go_at_call 9; refine (awake_c _ (Lib.hid (hL.out.below HB))).mono ?_; rintro e w' ⟨rfl, hw⟩; replace HB := chain HB hw; clear hw))
    go_ret
    exact ⟨rfl, HB⟩
  cases hl : vLeap a0
  · have E1 := Lib.hid (vFst_in (y := a0) (by omega) (by omega))
    have E2 := Lib.hid (show vFst (a0 + 1) = vFirst a0 + 365 by rw [vFst_in (by omega) (by omega), vFirst_succ, hl]; simp [lp]; try omega)
    have E3 := Lib.hid (show vFst (a0 + 4) = vFirst a0 + 1461 by rw [vFst_in (by omega) (by omega), first4])
    obtain ⟨f1, f2⟩ := vFirst_bd (y := a0) (by omega) (by omega)
    have t1 : (vFirst a0 + 365 - vFirst a0 == 365) = true := by simp; omega
    have t2 : (vFirst a0 + 1461 - vFirst a0 == 1461) = true := by simp; omega
    have HLp := Lib.hid hl
    have L := Lib.hid (fun k => vLen_le (vLeap a0) k)
    have C := Lib.hid (fun k => @vCum_le (vLeap a0) k)
    have S := Lib.hid (fun k => @vCum_succ (vLeap a0) k)
    have P := lp01 (vLeap a0)
    have E13 := Lib.hid (show vCum (vLeap a0) 13 = 365 by rw [vCum_end, hl]; rfl)
    clear hl
    go_enter Tryd.func7, Tryd.ntmps7
    go_wp2_with (first | (go_at_call 9; refine (awake_c _ (Lib.hid (hL.out.below HB))).mono ?_; rintro e w' ⟨rfl, hw⟩; replace HB := chain HB hw; clear hw) | (go_at_call 14; refine (First_c _ _).mono ?_; rintro e w' ⟨rfl, hw⟩; replace HB := chain HB hw.below; clear hw; first | rw [E1.out] | rw [E2.out] | rw [E3.out]))
    
    go_loop [9, 10] (fun t i => ∃ k : Int, 1 ≤ k ∧ k ≤ 13 ∧ i = .int .i64 k ∧ t = .int .i64 (vCum (vLeap a0) k)) (fun _ i => (13 - intOf i).toNat)
    case atStart => exact ⟨1, by omega, by omega, rfl, by rw [vCum_one]⟩
    case round =>
      obtain ⟨k, h1, h2, rfl, rfl⟩ := hrel
      have b1 := L.out k
      have b2 := C.out k (by omega)
      by_cases hk : k ≤ 12
      · have b3 := Lib.hid (S.out k (by omega) (by omega))
        go_wp2_with (first | (go_at_call 19; refine (length_c _ _ _ (Lib.hid (hL.out.below HB))).mono ?_; rintro e w' ⟨rfl, rfl⟩; skip))
        go_round
        case rel => exact ⟨k + 1, by omega, by omega, rfl, by rw [b3.out]⟩
        case measure => simp [intOf]; omega
      · obtain rfl : k = 13 := by omega
        rw [E13.out]
        go_wp2_with (first | (go_at_call 17; refine (leap_c _ _).mono ?_; rintro e w' ⟨rfl, rfl⟩; rw [HLp.out]))
        go_ret
        exact ⟨rfl, HB⟩
  · have E1 := Lib.hid (vFst_in (y := a0) (by omega) (by omega))
    have E2 := Lib.hid (show vFst (a0 + 1) = vFirst a0 + 366 by rw [vFst_in (by omega) (by omega), vFirst_succ, hl]; simp [lp]; try omega)
    have E3 := Lib.hid (show vFst (a0 + 4) = vFirst a0 + 1461 by rw [vFst_in (by omega) (by omega), first4])
    obtain ⟨f1, f2⟩ := vFirst_bd (y := a0) (by omega) (by omega)
    have t1 : (vFirst a0 + 366 - vFirst a0 == 366) = true := by simp; omega
    have t2 : (vFirst a0 + 1461 - vFirst a0 == 1461) = true := by simp; omega
    have HLp := Lib.hid hl
    have L := Lib.hid (fun k => vLen_le (vLeap a0) k)
    have C := Lib.hid (fun k => @vCum_le (vLeap a0) k)
    have S := Lib.hid (fun k => @vCum_succ (vLeap a0) k)
    have P := lp01 (vLeap a0)
    have E13 := Lib.hid (show vCum (vLeap a0) 13 = 366 by rw [vCum_end, hl]; rfl)
    clear hl
    go_enter Tryd.func7, Tryd.ntmps7
    go_wp2_with (first | (go_at_call 9; refine (awake_c _ (Lib.hid (hL.out.below HB))).mono ?_; rintro e w' ⟨rfl, hw⟩; replace HB := chain HB hw; clear hw) | (go_at_call 14; refine (First_c _ _).mono ?_; rintro e w' ⟨rfl, hw⟩; replace HB := chain HB hw.below; clear hw; first | rw [E1.out] | rw [E2.out] | rw [E3.out]))
    
    go_loop [9, 10] (fun t i => ∃ k : Int, 1 ≤ k ∧ k ≤ 13 ∧ i = .int .i64 k ∧ t = .int .i64 (vCum (vLeap a0) k)) (fun _ i => (13 - intOf i).toNat)
    case atStart => exact ⟨1, by omega, by omega, rfl, by rw [vCum_one]⟩
    case round =>
      obtain ⟨k, h1, h2, rfl, rfl⟩ := hrel
      have b1 := L.out k
      have b2 := C.out k (by omega)
      by_cases hk : k ≤ 12
      · have b3 := Lib.hid (S.out k (by omega) (by omega))
        go_wp2_with (first | (go_at_call 19; refine (length_c _ _ _ (Lib.hid (hL.out.below HB))).mono ?_; rintro e w' ⟨rfl, rfl⟩; skip))
        go_round
        case rel => exact ⟨k + 1, by omega, by omega, rfl, by rw [b3.out]⟩
        case measure => simp [intOf]; omega
      · obtain rfl : k = 13 := by omega
        rw [E13.out]
        go_wp2_with (first | (go_at_call 17; refine (leap_c _ _).mono ?_; rintro e w' ⟨rfl, rfl⟩; rw [HLp.out]))
        go_ret
        exact ⟨rfl, HB⟩

theorem contract (H : Type) (enc : TypeId × Value → H) (W : World) (base : Nat) (args : Array Value) (ds gs : List (DataW H)) (before : List MemPlace)
    (hval : ∀ (j : Nat) t v, Tryd.f7.params[j]? = some t → args[j]? = some v → Value.okWide Tryd.prog W .any base t v)
    (hW : DataW.Whole enc Tryd.prog Tryd.f7.params.toList Rows.julianYearsSpec.vars false W args.toList ds gs before) (hL : laidMetH Tryd.prog Rows.julianYearsRow.laid W) :
    Calls Tryd.prog 7 args W fun e W' => ∃ v, e = .returned v ∧ Rows.julianYearsSpec.post enc Tryd.prog Tryd.f7 false true false false W args v W' := by
  have hW' := hW
  obtain ⟨p, q, hA0, hV, rfl, hfz, hnd⟩ := hW
  have hA : DataW.TrodAll enc Tryd.prog W 0 (fun _ => true) true Tryd.f7.params.toList args.toList ds p := hA0
  rw [Tryd.params7] at hA hval
  obtain ⟨v0, vs0, d0, ds0, p0, q0, hargs, rfl, rfl, h0, r0⟩ := trodAll_cons hA
  obtain ⟨rfl, rfl, rfl⟩ := trodAll_nil r0
  obtain rfl : args = #[v0] := by cases args; simp_all
  obtain ⟨rfl, rfl⟩ := trodVars_none hV
  obtain ⟨a0, rfl, rfl, rfl, w0⟩ := open_int Tryd.underlying3 (hval 0 3 v0 rfl rfl) h0
  clear hA0
  refine (walk a0 W w0 (Lib.hid (lensIn_of_laid (W := W) hL))).mono fun e W' ⟨he, bel⟩ => ?_
  subst he
  exact ⟨_, rfl, _, _, _, [], _, [], hW', trodAll_mk1 (shut_bool Tryd.underlying4 _), (trodAll_cons_mk (shut_int Tryd.underlying3 w0) trodAll_mk0), rfl, bel.frame _, fun h => by cases h⟩

noncomputable def laidWorld (os : Os) : World :=
  { World.holding Tryd.prog os ⟨#[], #[], []⟩ with heap := (World.holding Tryd.prog os ⟨#[], #[], []⟩).heap.modify 0 fun
      | .cells _ t frozen => .cells #[.int .i64 31, .int .i64 28, .int .i64 31, .int .i64 30, .int .i64 31, .int .i64 30, .int .i64 31, .int .i64 31, .int .i64 30, .int .i64 31, .int .i64 30, .int .i64 31] t frozen
      | o => o }
theorem laid_met (os : Os) : laidMet Tryd.prog Rows.julianYearsRow.laid ((laidWorld os).forCall (fun _ _ => 0) ⟨#[], #[.int .i64 0], []⟩).memory :=
  laidMet_of_run' 8 (by kernel_rfl) (by kernel_rfl)
theorem reads (os : Os) {H : Type} (enc : TypeId × Value → H) : ∃ places, DataW.whole enc Tryd.prog ((laidWorld os).forCall (fun _ _ => 0) ⟨#[], #[.int .i64 0], []⟩).memory Tryd.f7.params.toList Rows.julianYearsSpec.vars false #[.int .i64 0].toList 8 = some ([.lit (.int .i64 0)], [], places) :=
  ⟨[], by kernel_rfl⟩

set_option maxRecDepth 100000 in
theorem lifted (os : Os) (started : os.Started) (H : Type) (enc : TypeId × Value → H) (F : Stop.Interp) :
    ReturnsInHanded {} Tryd.checked os 7 .any ((OpenSpec.ofChange Rows.julianYearsSpec).preRow enc Tryd.prog Tryd.f7 Rows.julianYearsRow.domain false Rows.julianYearsRow.laid) (((OpenSpec.ofChange Rows.julianYearsSpec).at F).post enc Tryd.prog Tryd.f7 false true false false) := by
  obtain ⟨places, hx⟩ := reads os enc
  refine returnsInHanded_of_row (C := Tryd.checked) (s := OpenSpec.ofChange Rows.julianYearsSpec) own started (by kernel_rfl) Tryd.func7
    (witness_row_at (enc := enc) (C := Tryd.checked) false (laidWorld os) #[.int .i64 0] rfl (by kernel_rfl) (by kernel_rfl) (by kernel_rfl)
      (OpenSpec.preRow_of_cond 8 hx (by kernel_rfl) (fun k hk => by cases hk) (by kernel_rfl) (laid_met os))) ?_
  intro W base args ds gs before hval hW _ _ _ hL _ _
  exact contract H enc W base args ds gs before hval hW hL

theorem said : Rows.JulianYearsSaid :=
  OpenClaim.holds_of_cond 7 Tryd.f7 rfl rfl rfl rfl rfl rfl rfl ⟨rfl, rfl, rfl, rfl, rfl⟩ rfl rfl rfl rfl rfl (by kernel_rfl) Tryd.func7 (by kernel_rfl)
    (of_decide_eq_true (by kernel_rfl)) (by unfold Func.isWrapper; first | (rw [if_pos (by decide +kernel)]; kernel_rfl) | (rw [if_neg (by decide +kernel)]; exact ⟨rfl, rfl⟩))
    (fun os started H enc _ F => by rw [OpenClaim.pre_eq_preRow]; exact lifted os started H enc F)

theorem plain (f : FuncId) (fn : Func) (hf : Tryd.pinned.checked.prog.funcNamed "computus/computuslaw02.JulianYears" = some f) (hfn : Tryd.pinned.checked.prog.funcs[f]? = some fn) :
    false = Tryd.pinned.checked.prog.looks [] ∧ ∀ (j : Nat) t, fn.params[j]? = some t → Tryd.pinned.checked.prog.wantsStandIn t = false := by
  obtain rfl : f = 7 := Option.some.inj ((show Tryd.prog.funcNamed "computus/computuslaw02.JulianYears" = some 7 by kernel_rfl).symm.trans hf) |>.symm
  obtain rfl : fn = Tryd.f7 := (Option.some.inj (Tryd.func7.symm.trans hfn)).symm
  refine ⟨by kernel_rfl, fun j t ht => ?_⟩
  rw [Tryd.params7] at ht
  have hm := Array.mem_of_getElem? ht
  simp only [List.mem_toArray, List.mem_cons, List.not_mem_nil, or_false] at hm
  rcases hm with rfl
  · exact (show Tryd.prog.wantsStandIn 3 = false by kernel_rfl)

theorem card : Rows.JulianYearsCardSaid :=
  Claim7.holds_tied_plain_at .later [] _ _ _ _ said (fun _ h => by cases h) (by kernel_rfl) (fun _ h => by cases h) julianYears_row_tie rfl ⟨rfl, rfl⟩ (by kernel_rfl) rfl plain (by kernel_rfl)
#print axioms card
end Go.Proofs.YtmdeeofeikdeeaaDoor.julianYears
