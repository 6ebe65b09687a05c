/-
  The law 'IntmathClamp' answers true for every input, and each argument reads afterwards as it read before. No condition.
  The frame was written by the kit's proof-skeleton; the walk is ours.
-/
import Derived.Test.YtoankoongjiegaaRows
import Derived.Test.YtoankoongjiegaaSum
import Derived.WalkKit
import Derived.ProofKit
import Derived.OpenShut
import Derived.ShutString
import Derived.ChangeOld
import Derived.Below
namespace Go.Proofs.Ytoankoongjiegaa.intmathClamp
open Go.ChangeShapes Go.WideShapes Go.ChangeAt Go.RowKit
open Go.ChangeMaps (open_string shut_string)
set_option linter.unusedVariables false      -- a walk need not use every 'w<i>' (that an integer argument fits its kind)

theorem own : ownKnob Try.prog.godebug = none := by kernel_rfl

theorem vc_low {n l h : Int} (hl : l ≤ h) : l ≤ vClamp n l h := by unfold vClamp; omega
theorem vc_high {n l h : Int} (hl : l ≤ h) : vClamp n l h ≤ h := by unfold vClamp; omega
theorem vc_idem {n l h : Int} (hl : l ≤ h) : vClamp (vClamp n l h) l h = vClamp n l h := by unfold vClamp; omega
theorem vc_mono {n m l h : Int} (hnm : n ≤ m) : vClamp n l h ≤ vClamp m l h := by unfold vClamp; omega
theorem vc_id {n l h : Int} (h1 : l ≤ n) (h2 : n ≤ h) : vClamp n l h = n := by unfold vClamp; omega
set_option maxHeartbeats 400000 in
theorem walk (a0 : Int) (a1 : Int) (a2 : Int) (a3 : Int) (w0 : (Lit.int .i64 a0).wf = true) (w1 : (Lit.int .i64 a1).wf = true) (w2 : (Lit.int .i64 a2).wf = true) (w3 : (Lit.int .i64 a3).wf = true) (w : World) :
    Calls Try.prog 4 #[.int .i64 a0, .int .i64 a1, .int .i64 a2, .int .i64 a3] w fun e w' => e = .returned (.bool true) ∧ Below w.heap.size w w' := by
  clear w0 w1 w2 w3
  have HB := Below.refl w.heap.size w
  by_cases hl : a2 ≤ a3
  · have b1 := vc_low (n := a0) hl
    have b2 := vc_high (n := a0) hl
    have e3 := vc_idem (n := a0) hl
    have e4 := @vc_mono a0 a1 a2 a3
    have e5 := @vc_id a0 a2 a3
    generalize hx : vClamp a0 a2 a3 = x at *
    generalize hy : vClamp a1 a2 a3 = y at *
    have X := Lib.hid hx
    have Y := Lib.hid hy
    have I := Lib.hid e3
    have M := Lib.hid e4
    have F := Lib.hid e5
    clear hx hy e3 e4 e5
    by_cases hnm : a0 ≤ a1
    · have b3 := M.out hnm
      by_cases h1 : a2 ≤ a0
      · by_cases h2 : a0 ≤ a3
        · have e : x = a0 := F.out h1 h2
          clear F
          subst e
          go_enter Try.func4, Try.ntmps4
          go_wp2_with (first | (go_at_call 7; refine (awake_c _).mono ?_; rintro e w' ⟨rfl, hw⟩; replace HB := chain HB hw; clear hw) | (go_at_call 12; refine (clamp_c _ _ _ _).mono ?_; rintro e w' ⟨rfl, rfl⟩; first | rw [I.out] | rw [X.out] | rw [Y.out]))
          go_ret
          exact ⟨rfl, HB⟩
        · clear F
          go_enter Try.func4, Try.ntmps4
          go_wp2_with (first | (go_at_call 7; refine (awake_c _).mono ?_; rintro e w' ⟨rfl, hw⟩; replace HB := chain HB hw; clear hw) | (go_at_call 12; refine (clamp_c _ _ _ _).mono ?_; rintro e w' ⟨rfl, rfl⟩; first | rw [I.out] | rw [X.out] | rw [Y.out]))
          go_ret
          exact ⟨rfl, HB⟩
      · clear F
        go_enter Try.func4, Try.ntmps4
        go_wp2_with (first | (go_at_call 7; refine (awake_c _).mono ?_; rintro e w' ⟨rfl, hw⟩; replace HB := chain HB hw; clear hw) | (go_at_call 12; refine (clamp_c _ _ _ _).mono ?_; rintro e w' ⟨rfl, rfl⟩; first | rw [I.out] | rw [X.out] | rw [Y.out]))
        go_ret
        exact ⟨rfl, HB⟩
    · by_cases h1 : a2 ≤ a0
      · by_cases h2 : a0 ≤ a3
        · have e : x = a0 := F.out h1 h2
          clear F
          subst e
          go_enter Try.func4, Try.ntmps4
          go_wp2_with (first | (go_at_call 7; refine (awake_c _).mono ?_; rintro e w' ⟨rfl, hw⟩; replace HB := chain HB hw; clear hw) | (go_at_call 12; refine (clamp_c _ _ _ _).mono ?_; rintro e w' ⟨rfl, rfl⟩; first | rw [I.out] | rw [X.out] | rw [Y.out]))
          go_ret
          exact ⟨rfl, HB⟩
        · clear F
          go_enter Try.func4, Try.ntmps4
          go_wp2_with (first | (go_at_call 7; refine (awake_c _).mono ?_; rintro e w' ⟨rfl, hw⟩; replace HB := chain HB hw; clear hw) | (go_at_call 12; refine (clamp_c _ _ _ _).mono ?_; rintro e w' ⟨rfl, rfl⟩; first | rw [I.out] | rw [X.out] | rw [Y.out]))
          go_ret
          exact ⟨rfl, HB⟩
      · clear F
        go_enter Try.func4, Try.ntmps4
        go_wp2_with (first | (go_at_call 7; refine (awake_c _).mono ?_; rintro e w' ⟨rfl, hw⟩; replace HB := chain HB hw; clear hw) | (go_at_call 12; refine (clamp_c _ _ _ _).mono ?_; rintro e w' ⟨rfl, rfl⟩; first | rw [I.out] | rw [X.out] | rw [Y.out]))
        go_ret
        exact ⟨rfl, HB⟩
  · go_enter Try.func4, Try.ntmps4
    go_wp2_with (go_at_call 7; refine (awake_c _).mono ?_; rintro e w' ⟨rfl, hw⟩; replace HB := chain HB hw; clear hw)
    go_ret
    exact ⟨rfl, HB⟩


set_option maxRecDepth 100000 in
theorem lifted (os : Os) (started : os.Started) (H : Type) (enc : TypeId × Value → H) :
    ReturnsInHanded {} Try.checked os 4 .any (Rows.intmathClampSpec.pre6 enc Try.prog Try.f4 Rows.intmathClampRow.domain false) (Rows.intmathClampSpec.post enc Try.prog Try.f4 false true false false) := by
  refine returnsInHanded_of_change (C := Try.checked) own started (by kernel_rfl) Try.func4
    (ChangeSpec.witness6 (enc := enc) (C := Try.checked) false ⟨#[], #[.int .i64 0, .int .i64 0, .int .i64 0, .int .i64 0], []⟩ 8 (by kernel_rfl) (by kernel_rfl) (by kernel_rfl) (by kernel_rfl)) ?_
  intro W base args ds gs before hval0 hW hcnd _
  have hval : ∀ (j : Nat) t v, Try.f4.params[j]? = some t → args[j]? = some v → Value.okWide Try.prog W .any base t v := hval0
  have hW' := hW
  obtain ⟨p, q, hA0, hV, rfl, hfz, hnd⟩ := hW
  have hA : DataW.TrodAll enc Try.prog W 0 (fun _ => true) true Try.f4.params.toList args.toList ds p := hA0
  rw [Try.params4] at hA hval
  obtain ⟨v0, vs0, d0, ds0, p0, q0, hargs, rfl, rfl, h0, r0⟩ := trodAll_cons hA
  obtain ⟨v1, vs1, d1, ds1, p1, q1, rfl, rfl, rfl, h1, r1⟩ := trodAll_cons r0
  obtain ⟨v2, vs2, d2, ds2, p2, q2, rfl, rfl, rfl, h2, r2⟩ := trodAll_cons r1
  obtain ⟨v3, vs3, d3, ds3, p3, q3, rfl, rfl, rfl, h3, r3⟩ := trodAll_cons r2
  obtain ⟨rfl, rfl, rfl⟩ := trodAll_nil r3
  obtain rfl : args = #[v0, v1, v2, v3] := by cases args; simp_all
  obtain ⟨rfl, rfl⟩ := trodVars_none hV
  obtain ⟨a0, rfl, rfl, rfl, w0⟩ := open_int Try.underlying3 (hval 0 3 v0 rfl rfl) h0
  obtain ⟨a1, rfl, rfl, rfl, w1⟩ := open_int Try.underlying3 (hval 1 3 v1 rfl rfl) h1
  obtain ⟨a2, rfl, rfl, rfl, w2⟩ := open_int Try.underlying3 (hval 2 3 v2 rfl rfl) h2
  obtain ⟨a3, rfl, rfl, rfl, w3⟩ := open_int Try.underlying3 (hval 3 3 v3 rfl rfl) h3
  clear hA0 hval0
  simp only [List.append_nil] at hW'
  refine (walk a0 a1 a2 a3 w0 w1 w2 w3 W).mono fun e W' ⟨he, hg⟩ => ?_
  subst he
  exact ⟨_, rfl, _, _, _, [], _, [], hW', trodAll_mk1 (shut_bool Try.underlying4 _), (trodAll_cons_mk (shut_int Try.underlying3 w0) (trodAll_cons_mk (shut_int Try.underlying3 w1) (trodAll_cons_mk (shut_int Try.underlying3 w2) (trodAll_cons_mk (shut_int Try.underlying3 w3) trodAll_mk0)))), rfl, hg.frame _, fun h => by cases h⟩

theorem over : Rows.intmathClampRow.holds Try.pinned (OpenSpec.ofChange Rows.intmathClampSpec) :=
  OpenClaim.holds_of_wide 4 Try.f4 rfl rfl rfl rfl rfl rfl rfl ⟨rfl, rfl, rfl, rfl, rfl⟩ rfl rfl rfl rfl rfl (by kernel_rfl) Try.func4 (by kernel_rfl)
    (of_decide_eq_true (by kernel_rfl)) (by unfold Func.isWrapper; first | (rw [if_pos (by decide +kernel)]; kernel_rfl) | (rw [if_neg (by decide +kernel)]; exact ⟨rfl, rfl⟩))
    (fun os started H enc _ => lifted os started H enc)

theorem proved : Rows.IntmathClampSaid :=
  over
#print axioms proved
end Go.Proofs.Ytoankoongjiegaa.intmathClamp
