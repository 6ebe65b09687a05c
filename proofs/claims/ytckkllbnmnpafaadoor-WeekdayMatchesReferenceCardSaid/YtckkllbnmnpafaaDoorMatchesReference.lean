/-
  The law 'WeekdayMatchesReference' answers true for every input, and each argument reads afterwards as it read before; the package-level variables start as the program's text lays them (the card ties that). No other condition.
  The frame follows the kit's own examples; the walk is ours.
-/
import Derived.Test.YtckkllbnmnpafaaDoorCards
import Derived.Test.YtckkllbnmnpafaaDoorTie
import Derived.Test.YtckkllbnmnpafaaDoorLaid
import Derived.WalkKit
import Derived.ProofKit
import Derived.OpenShut
import Derived.ShutString
import Derived.ChangeOld
import Derived.Below
import Derived.Deep.DeepHandedRow
import Derived.Lib.SmallJoins
namespace Go.Proofs.YtckkllbnmnpafaaDoor.weekdayMatchesReference
open Go.ChangeShapes Go.WideShapes Go.ChangeAt Go.RowKit Go.Joins
open Go.ChangeMaps (open_string shut_string)
set_option linter.unusedVariables false

theorem own : ownKnob Tryd.prog.godebug = none := by kernel_rfl

set_option maxRecDepth 100000 in
set_option maxHeartbeats 400000 in
theorem walk (a0 : Int) (a1 : Int) (a2 : Int) (a3 : ByteArray) (w : World) (w0 : (Lit.int .i64 a0).wf = true) (w1 : (Lit.int .i64 a1).wf = true) (w2 : (Lit.int .i64 a2).wf = true) (w3 : a3.size ≤ maxLen) (hL : Hid (NamesIn w)) :
    Calls Tryd.prog 3 #[.int .i64 a0, .int .i64 a1, .int .i64 a2, .string a3] w fun e w' => e = .returned (.bool true) ∧ Below w.heap.size w w' := by
  obtain ⟨ha1, ha2⟩ := bounds_i64 w0
  clear w0 w1 w2
  have HB := Below.refl w.heap.size w
  by_cases h : (1000 : Int) < (a3.size : Int)
  · go_enter Tryd.func3, Tryd.ntmps3
    go_wp2_with (first | (go_at_call 8; refine (awake_c _ (Lib.hid (hL.out.below HB))).mono ?_; rintro e w' ⟨rfl, hw⟩; replace HB := chain HB hw; clear hw))
    go_ret
    exact ⟨rfl, HB⟩
  · have b1 : 0 ≤ a0 % 7 := by omega
    go_enter Tryd.func3, Tryd.ntmps3
    go_wp2_with (first | (go_at_call 8; refine (awake_c _ (Lib.hid (hL.out.below HB))).mono ?_; rintro e w' ⟨rfl, hw⟩; replace HB := chain HB hw; clear hw) | (go_at_call 15; refine (of_c _ _ (by omega) (by omega)).mono ?_; rintro e w' ⟨rfl, hw⟩; replace HB := chain HB hw; clear hw; skip) | (go_at_call 9; refine (after_c _ _ _).mono ?_; rintro e w' ⟨rfl, hw⟩; replace HB := chain HB hw; clear hw; skip) | (go_at_call 11; refine (before_c _ _ _).mono ?_; rintro e w' ⟨rfl, hw⟩; replace HB := chain HB hw; clear hw; skip) | (go_at_call 13; refine (nth_c _ _ _ _).mono ?_; rintro e w' ⟨rfl, hw⟩; replace HB := chain HB hw; clear hw; skip) | (go_at_call 10; refine (rafter_c _ _ _).mono ?_; rintro e w' ⟨rfl, rfl⟩; skip) | (go_at_call 12; refine (rbefore_c _ _ _).mono ?_; rintro e w' ⟨rfl, rfl⟩; skip) | (go_at_call 14; refine (rnth_c _ _ _ _).mono ?_; rintro e w' ⟨rfl, rfl⟩; skip) | (go_at_call 16; refine (rof_c _ _ ha1 ha2).mono ?_; rintro e w' ⟨rfl, rfl⟩; skip) | (go_at_call 17; refine (name_c _ _ (Lib.hid (hL.out.below HB))).mono ?_; rintro e w' ⟨rfl, rfl⟩; skip) | (go_at_call 18; refine (rname_c _ _).mono ?_; rintro e w' ⟨rfl, rfl⟩; skip) | (go_at_call 19; refine (find_c _ _ (Lib.hid (hL.out.below HB))).mono ?_; rintro e w' ⟨rfl, rfl⟩; skip) | (go_at_call 20; refine (rfind_c _ _).mono ?_; rintro e w' ⟨rfl, rfl⟩; skip))
    all_goals (go_ret; exact ⟨rfl, HB⟩)

theorem contract (H : Type) (enc : TypeId × Value → H) (W : World) (base : Nat) (args : Array Value) (ds gs : List (DataW H)) (before : List MemPlace)
    (hval : ∀ (j : Nat) t v, Tryd.f3.params[j]? = some t → args[j]? = some v → Value.okWide Tryd.prog W .any base t v)
    (hW : DataW.Whole enc Tryd.prog Tryd.f3.params.toList Rows.weekdayMatchesReferenceSpec.vars false W args.toList ds gs before) (hL : laidMetH Tryd.prog Rows.weekdayMatchesReferenceRow.laid W) :
    Calls Tryd.prog 3 args W fun e W' => ∃ v, e = .returned v ∧ Rows.weekdayMatchesReferenceSpec.post enc Tryd.prog Tryd.f3 false true false false W args v W' := by
  have hW' := hW
  obtain ⟨p, q, hA0, hV, rfl, hfz, hnd⟩ := hW
  have hA : DataW.TrodAll enc Tryd.prog W 0 (fun _ => true) true Tryd.f3.params.toList args.toList ds p := hA0
  rw [Tryd.params3] at hA hval
  obtain ⟨v0, vs0, d0, ds0, p0, q0, hargs, rfl, rfl, h0, r0⟩ := trodAll_cons hA
  obtain ⟨v1, vs1, d1, ds1, p1, q1, rfl, rfl, rfl, h1, r1⟩ := trodAll_cons r0
  obtain ⟨v2, vs2, d2, ds2, p2, q2, rfl, rfl, rfl, h2, r2⟩ := trodAll_cons r1
  obtain ⟨v3, vs3, d3, ds3, p3, q3, rfl, rfl, rfl, h3, r3⟩ := trodAll_cons r2
  obtain ⟨rfl, rfl, rfl⟩ := trodAll_nil r3
  obtain rfl : args = #[v0, v1, v2, v3] := by cases args; simp_all
  obtain ⟨rfl, rfl⟩ := trodVars_none hV
  obtain ⟨a0, rfl, rfl, rfl, w0⟩ := open_int Tryd.underlying3 (hval 0 3 v0 rfl rfl) h0
  obtain ⟨a1, rfl, rfl, rfl, w1⟩ := open_int Tryd.underlying3 (hval 1 3 v1 rfl rfl) h1
  obtain ⟨a2, rfl, rfl, rfl, w2⟩ := open_int Tryd.underlying3 (hval 2 3 v2 rfl rfl) h2
  obtain ⟨a3, rfl, rfl, rfl, w3⟩ := open_string Tryd.underlying9 (hval 3 9 v3 rfl rfl) h3
  clear hA0
  refine (walk a0 a1 a2 a3 W w0 w1 w2 w3 (Lib.hid (namesIn_of_laid (W := W) hL))).mono fun e W' ⟨he, bel⟩ => ?_
  subst he
  exact ⟨_, rfl, _, _, _, [], _, [], hW', trodAll_mk1 (shut_bool Tryd.underlying4 _), (trodAll_cons_mk (shut_int Tryd.underlying3 w0) (trodAll_cons_mk (shut_int Tryd.underlying3 w1) (trodAll_cons_mk (shut_int Tryd.underlying3 w2) (trodAll_cons_mk (shut_string Tryd.underlying9 w3) trodAll_mk0)))), rfl, bel.frame _, fun h => by cases h⟩

noncomputable def laidWorld (os : Os) : World :=
  { World.holding Tryd.prog os ⟨#[], #[], []⟩ with heap := (World.holding Tryd.prog os ⟨#[], #[], []⟩).heap.modify 0 fun
      | .cells _ t frozen => .cells #[.string ⟨#[115, 117, 110, 100, 97, 121]⟩, .string ⟨#[109, 111, 110, 100, 97, 121]⟩, .string ⟨#[116, 117, 101, 115, 100, 97, 121]⟩, .string ⟨#[119, 101, 100, 110, 101, 115, 100, 97, 121]⟩, .string ⟨#[116, 104, 117, 114, 115, 100, 97, 121]⟩, .string ⟨#[102, 114, 105, 100, 97, 121]⟩, .string ⟨#[115, 97, 116, 117, 114, 100, 97, 121]⟩] t frozen
      | o => o }
theorem laid_met (os : Os) : laidMet Tryd.prog Rows.weekdayMatchesReferenceRow.laid ((laidWorld os).forCall (fun _ _ => 0) ⟨#[], #[.int .i64 0, .int .i64 0, .int .i64 0, .string ByteArray.empty], []⟩).memory :=
  laidMet_of_run' 8 (by kernel_rfl) (by kernel_rfl)
theorem reads (os : Os) {H : Type} (enc : TypeId × Value → H) : ∃ places, DataW.whole enc Tryd.prog ((laidWorld os).forCall (fun _ _ => 0) ⟨#[], #[.int .i64 0, .int .i64 0, .int .i64 0, .string ByteArray.empty], []⟩).memory Tryd.f3.params.toList Rows.weekdayMatchesReferenceSpec.vars false #[.int .i64 0, .int .i64 0, .int .i64 0, .string ByteArray.empty].toList 8 = some ([.lit (.int .i64 0), .lit (.int .i64 0), .lit (.int .i64 0), .lit (.string [])], [], places) :=
  ⟨[], by kernel_rfl⟩

set_option maxRecDepth 100000 in
theorem lifted (os : Os) (started : os.Started) (H : Type) (enc : TypeId × Value → H) (F : Stop.Interp) :
    ReturnsInHanded {} Tryd.checked os 3 .any ((OpenSpec.ofChange Rows.weekdayMatchesReferenceSpec).preRow enc Tryd.prog Tryd.f3 Rows.weekdayMatchesReferenceRow.domain false Rows.weekdayMatchesReferenceRow.laid) (((OpenSpec.ofChange Rows.weekdayMatchesReferenceSpec).at F).post enc Tryd.prog Tryd.f3 false true false false) := by
  obtain ⟨places, hx⟩ := reads os enc
  refine returnsInHanded_of_row (C := Tryd.checked) (s := OpenSpec.ofChange Rows.weekdayMatchesReferenceSpec) own started (by kernel_rfl) Tryd.func3
    (witness_row_at (enc := enc) (C := Tryd.checked) false (laidWorld os) #[.int .i64 0, .int .i64 0, .int .i64 0, .string ByteArray.empty] rfl (by kernel_rfl) (by kernel_rfl) (by kernel_rfl)
      (OpenSpec.preRow_of_cond 8 hx (by kernel_rfl) (fun k hk => by cases hk) (by kernel_rfl) (laid_met os))) ?_
  intro W base args ds gs before hval hW _ _ _ hL _ _
  exact contract H enc W base args ds gs before hval hW hL

theorem said : Rows.WeekdayMatchesReferenceSaid :=
  OpenClaim.holds_of_cond 3 Tryd.f3 rfl rfl rfl rfl rfl rfl rfl ⟨rfl, rfl, rfl, rfl, rfl⟩ rfl rfl rfl rfl rfl (by kernel_rfl) Tryd.func3 (by kernel_rfl)
    (of_decide_eq_true (by kernel_rfl)) (by unfold Func.isWrapper; first | (rw [if_pos (by decide +kernel)]; kernel_rfl) | (rw [if_neg (by decide +kernel)]; exact ⟨rfl, rfl⟩))
    (fun os started H enc _ F => by rw [OpenClaim.pre_eq_preRow]; exact lifted os started H enc F)

theorem plain (f : FuncId) (fn : Func) (hf : Tryd.pinned.checked.prog.funcNamed "computus/computuslaw04.WeekdayMatchesReference" = some f) (hfn : Tryd.pinned.checked.prog.funcs[f]? = some fn) :
    false = Tryd.pinned.checked.prog.looks [] ∧ ∀ (j : Nat) t, fn.params[j]? = some t → Tryd.pinned.checked.prog.wantsStandIn t = false := by
  obtain rfl : f = 3 := Option.some.inj ((show Tryd.prog.funcNamed "computus/computuslaw04.WeekdayMatchesReference" = some 3 by kernel_rfl).symm.trans hf) |>.symm
  obtain rfl : fn = Tryd.f3 := (Option.some.inj (Tryd.func3.symm.trans hfn)).symm
  refine ⟨by kernel_rfl, fun j t ht => ?_⟩
  rw [Tryd.params3] at ht
  have hm := Array.mem_of_getElem? ht
  simp only [List.mem_toArray, List.mem_cons, List.not_mem_nil, or_false] at hm
  rcases hm with rfl | rfl | rfl | rfl
  · exact (show Tryd.prog.wantsStandIn 3 = false by kernel_rfl)
  · exact (show Tryd.prog.wantsStandIn 3 = false by kernel_rfl)
  · exact (show Tryd.prog.wantsStandIn 3 = false by kernel_rfl)
  · exact (show Tryd.prog.wantsStandIn 9 = false by kernel_rfl)

theorem card : Rows.WeekdayMatchesReferenceCardSaid :=
  Claim7.holds_tied_plain_at .later [] _ _ _ _ said (fun _ h => by cases h) (by kernel_rfl) (fun _ h => by cases h) weekdayMatchesReference_row_tie rfl ⟨rfl, rfl⟩ (by kernel_rfl) rfl plain (by kernel_rfl)
#print axioms card
end Go.Proofs.YtckkllbnmnpafaaDoor.weekdayMatchesReference
