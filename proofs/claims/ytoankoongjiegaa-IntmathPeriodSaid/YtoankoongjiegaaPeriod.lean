/-
  The law 'IntmathPeriod' answers true for every input, and each argument reads afterwards as it read before. No condition.
  The frame was written by the kit's proof-skeleton; the walk is ours.
-/
import Derived.Test.YtoankoongjiegaaRows
import Derived.Test.YtoankoongjiegaaSum
import Derived.WalkKit
import Derived.ProofKit
import Derived.OpenShut
import Derived.ShutString
import Derived.ChangeOld
import Derived.Below
namespace Go.Proofs.Ytoankoongjiegaa.intmathPeriod
open Go.ChangeShapes Go.WideShapes Go.ChangeAt Go.RowKit
open Go.ChangeMaps (open_string shut_string)
set_option linter.unusedVariables false      -- a walk need not use every 'w<i>' (that an integer argument fits its kind)

theorem own : ownKnob Try.prog.godebug = none := by kernel_rfl

theorem fdm_step {a b : Int} (hb : ¬ b = 0) : (a + b).fdiv b = a.fdiv b + 1 ∧ (a + b).fmod b = a.fmod b := by
  have := Int.add_mul_fdiv_right a 1 hb
  rw [Int.one_mul] at this
  exact ⟨this, Int.add_fmod_right a b⟩
set_option maxHeartbeats 400000 in
theorem walk (a0 : Int) (a1 : Int) (w0 : (Lit.int .i64 a0).wf = true) (w1 : (Lit.int .i64 a1).wf = true) (w : World) :
    Calls Try.prog 3 #[.int .i64 a0, .int .i64 a1] w fun e w' => e = .returned (.bool true) ∧ Below w.heap.size w w' := by
  obtain ⟨ha1, ha2⟩ := bounds_i64 w0
  obtain ⟨hb1, hb2⟩ := bounds_i64 w1
  clear w0 w1
  have HB := Below.refl w.heap.size w
  by_cases hb : a1 = 0
  · subst hb
    go_enter Try.func3, Try.ntmps3
    go_wp2_with (go_at_call 7; refine (awake_c _).mono ?_; rintro e w' ⟨rfl, hw⟩; replace HB := chain HB hw; clear hw)
    go_ret
    exact ⟨rfl, HB⟩
  have h0 : (a1 == 0) = false := by simpa using hb
  cases hs : in64 (a0 + a1)
  · have HS := Lib.hid hs
    clear hs
    go_enter Try.func3, Try.ntmps3
    go_wp2_with (first | (go_at_call 7; refine (awake_c _).mono ?_; rintro e w' ⟨rfl, hw⟩; replace HB := chain HB hw; clear hw) | (go_at_call 8; refine (adds_c _ _ _ ⟨hb1, hb2⟩ ⟨ha1, ha2⟩).mono ?_; rintro e w' ⟨rfl, rfl⟩; rw [HS.out]))
    go_ret
    exact ⟨rfl, HB⟩
  have HS := Lib.hid hs
  obtain ⟨hs1, hs2⟩ := in64_iff.1 hs
  clear hs
  cases hp : spl a0 a1
  · have HP := Lib.hid hp
    clear hp
    go_enter Try.func3, Try.ntmps3
    go_wp2_with (first | (go_at_call 7; refine (awake_c _).mono ?_; rintro e w' ⟨rfl, hw⟩; replace HB := chain HB hw; clear hw) | (go_at_call 8; refine (adds_c _ _ _ ⟨hb1, hb2⟩ ⟨ha1, ha2⟩).mono ?_; rintro e w' ⟨rfl, rfl⟩; rw [HS.out]) | (go_at_call 9; refine (splits_c _ _ _).mono ?_; rintro e w' ⟨rfl, rfl⟩; rw [HP.out]))
    go_ret
    exact ⟨rfl, HB⟩
  have HP := Lib.hid hp
  cases hr : spl (a0 + a1) a1
  · have HR := Lib.hid hr
    clear hr hp
    go_enter Try.func3, Try.ntmps3
    go_wp2_with (first | (go_at_call 7; refine (awake_c _).mono ?_; rintro e w' ⟨rfl, hw⟩; replace HB := chain HB hw; clear hw) | (go_at_call 8; refine (adds_c _ _ _ ⟨hb1, hb2⟩ ⟨ha1, ha2⟩).mono ?_; rintro e w' ⟨rfl, rfl⟩; rw [HS.out]) | (go_at_call 9; refine (splits_c _ _ _).mono ?_; rintro e w' ⟨rfl, rfl⟩; first | rw [HP.out] | rw [HR.out]))
    go_ret
    exact ⟨rfl, HB⟩
  have HR := Lib.hid hr
  obtain ⟨e1, e2⟩ := fdm_step (a := a0) hb
  have v1 : vDiv (a0 + a1) a1 = vDiv a0 a1 + 1 := by unfold vDiv; rw [if_pos hr, if_pos hp, e1]
  have v2 : vMod (a0 + a1) a1 = vMod a0 a1 := by unfold vMod; rw [if_pos hr, if_pos hp, e2]
  have v3 : In64 (vDiv (a0 + a1) a1) := by unfold vDiv; rw [if_pos hr]; exact fdiv_in ⟨hs1, hs2⟩ ⟨hb1, hb2⟩ hr
  rw [v1] at v3
  have V1 := Lib.hid v1
  have V2 := Lib.hid v2
  obtain ⟨v4, v5⟩ := v3
  clear hr hp v1 v2 e1 e2
  generalize hq : vDiv a0 a1 = q at *
  generalize hr : vMod a0 a1 = r at *
  have Q := Lib.hid hq
  have R := Lib.hid hr
  clear hq hr
  go_enter Try.func3, Try.ntmps3
  go_wp2_with (first | (go_at_call 7; refine (awake_c _).mono ?_; rintro e w' ⟨rfl, hw⟩; replace HB := chain HB hw; clear hw) | (go_at_call 8; refine (adds_c _ _ _ ⟨hb1, hb2⟩ ⟨ha1, ha2⟩).mono ?_; rintro e w' ⟨rfl, rfl⟩; rw [HS.out]) | (go_at_call 9; refine (splits_c _ _ _).mono ?_; rintro e w' ⟨rfl, rfl⟩; first | rw [HP.out] | rw [HR.out]) | (go_at_call 10; refine (div_c _ _ _ (by omega) (by omega) (by omega) (by omega)).mono ?_; rintro e w' ⟨rfl, hw⟩; replace HB := chain HB hw; clear hw; first | rw [V1.out, HR.out] | rw [Q.out, HP.out]) | (go_at_call 11; refine (mod_c _ _ _ (by omega) (by omega) (by omega) (by omega)).mono ?_; rintro e w' ⟨rfl, hw⟩; replace HB := chain HB hw; clear hw; first | rw [V2.out, HR.out] | rw [R.out, HP.out]))
  go_ret
  exact ⟨rfl, HB⟩


set_option maxRecDepth 100000 in
theorem lifted (os : Os) (started : os.Started) (H : Type) (enc : TypeId × Value → H) :
    ReturnsInHanded {} Try.checked os 3 .any (Rows.intmathPeriodSpec.pre6 enc Try.prog Try.f3 Rows.intmathPeriodRow.domain false) (Rows.intmathPeriodSpec.post enc Try.prog Try.f3 false true false false) := by
  refine returnsInHanded_of_change (C := Try.checked) own started (by kernel_rfl) Try.func3
    (ChangeSpec.witness6 (enc := enc) (C := Try.checked) false ⟨#[], #[.int .i64 0, .int .i64 0], []⟩ 8 (by kernel_rfl) (by kernel_rfl) (by kernel_rfl) (by kernel_rfl)) ?_
  intro W base args ds gs before hval0 hW hcnd _
  have hval : ∀ (j : Nat) t v, Try.f3.params[j]? = some t → args[j]? = some v → Value.okWide Try.prog W .any base t v := hval0
  have hW' := hW
  obtain ⟨p, q, hA0, hV, rfl, hfz, hnd⟩ := hW
  have hA : DataW.TrodAll enc Try.prog W 0 (fun _ => true) true Try.f3.params.toList args.toList ds p := hA0
  rw [Try.params3] at hA hval
  obtain ⟨v0, vs0, d0, ds0, p0, q0, hargs, rfl, rfl, h0, r0⟩ := trodAll_cons hA
  obtain ⟨v1, vs1, d1, ds1, p1, q1, rfl, rfl, rfl, h1, r1⟩ := trodAll_cons r0
  obtain ⟨rfl, rfl, rfl⟩ := trodAll_nil r1
  obtain rfl : args = #[v0, v1] := by cases args; simp_all
  obtain ⟨rfl, rfl⟩ := trodVars_none hV
  obtain ⟨a0, rfl, rfl, rfl, w0⟩ := open_int Try.underlying3 (hval 0 3 v0 rfl rfl) h0
  obtain ⟨a1, rfl, rfl, rfl, w1⟩ := open_int Try.underlying3 (hval 1 3 v1 rfl rfl) h1
  clear hA0 hval0
  simp only [List.append_nil] at hW'
  refine (walk a0 a1 w0 w1 W).mono fun e W' ⟨he, hg⟩ => ?_
  subst he
  exact ⟨_, rfl, _, _, _, [], _, [], hW', trodAll_mk1 (shut_bool Try.underlying4 _), (trodAll_cons_mk (shut_int Try.underlying3 w0) (trodAll_cons_mk (shut_int Try.underlying3 w1) trodAll_mk0)), rfl, hg.frame _, fun h => by cases h⟩

theorem over : Rows.intmathPeriodRow.holds Try.pinned (OpenSpec.ofChange Rows.intmathPeriodSpec) :=
  OpenClaim.holds_of_wide 3 Try.f3 rfl rfl rfl rfl rfl rfl rfl ⟨rfl, rfl, rfl, rfl, rfl⟩ rfl rfl rfl rfl rfl (by kernel_rfl) Try.func3 (by kernel_rfl)
    (of_decide_eq_true (by kernel_rfl)) (by unfold Func.isWrapper; first | (rw [if_pos (by decide +kernel)]; kernel_rfl) | (rw [if_neg (by decide +kernel)]; exact ⟨rfl, rfl⟩))
    (fun os started H enc _ => lifted os started H enc)

theorem proved : Rows.IntmathPeriodSaid :=
  over
#print axioms proved
end Go.Proofs.Ytoankoongjiegaa.intmathPeriod
