/-
  The law 'WeekdayNames' answers true for every input, and each argument reads afterwards as it read before; the package-level variables start as the program's text lays them (the card ties that). No other condition.
  The frame follows the kit's own examples; the walk is ours.
-/
import Derived.Test.YtckkllbnmnpafaaDoorCards
import Derived.Test.YtckkllbnmnpafaaDoorTie
import Derived.Test.YtckkllbnmnpafaaDoorLaid
import Derived.WalkKit
import Derived.ProofKit
import Derived.OpenShut
import Derived.ShutString
import Derived.ChangeOld
import Derived.Below
import Derived.Deep.DeepHandedRow
import Derived.Lib.SmallJoins
namespace Go.Proofs.YtckkllbnmnpafaaDoor.weekdayNames
open Go.ChangeShapes Go.WideShapes Go.ChangeAt Go.RowKit Go.Joins
open Go.ChangeMaps (open_string shut_string)
set_option linter.unusedVariables false

theorem own : ownKnob Tryd.prog.godebug = none := by kernel_rfl

theorem out_empty {k : Int} (h : k < 0 ∨ 6 < k) : (vName k).toList.isEmpty = true := by rw [vName_out h]; decide +kernel
theorem in_full {k : Int} (h0 : 0 ≤ k) (h6 : k ≤ 6) : (vName k).toList.isEmpty = false := by
  rcases seven h0 h6 with rfl | rfl | rfl | rfl | rfl | rfl | rfl <;> decide +kernel
theorem in_found {k : Int} (h0 : 0 ≤ k) (h6 : k ≤ 6) : vFind (vName k).toList = k := by
  rcases seven h0 h6 with rfl | rfl | rfl | rfl | rfl | rfl | rfl <;> decide +kernel
theorem in_apart {a b : Int} (h0 : 0 ≤ a) (h6 : a ≤ 6) (h : ¬ a = b) : ((vName a).toList == (vName b).toList) = false := by
  by_cases hb : b < 0 ∨ 6 < b
  · have e : (vName b).toList = [] := by rw [vName_out hb]; decide +kernel
    have f := in_full h0 h6
    rw [e]
    cases hx : (vName a).toList with
    | nil => rw [hx] at f; simp at f
    | cons x l => rfl
  · apply Bool.eq_false_iff.2
    intro e
    have e' : (vName a).toList = (vName b).toList := by simpa using e
    have fa := in_found h0 h6
    have fb := in_found (k := b) (by omega) (by omega)
    rw [e', fb] at fa
    exact h fa.symm
theorem nameL_is {k : Nat} (hk : k < 7) : (vName (k : Int)).toList = nameL k := by
  have : k = 0 ∨ k = 1 ∨ k = 2 ∨ k = 3 ∨ k = 4 ∨ k = 5 ∨ k = 6 := by omega
  rcases this with rfl | rfl | rfl | rfl | rfl | rfl | rfl <;> decide +kernel
/-- What is found is a name; else the answer is -1. -/
theorem find_is (l : List UInt8) : vFind l = -1 ∨ (0 ≤ vFind l ∧ vFind l ≤ 6 ∧ ((vName (vFind l)).toList == l) = true) := by
  by_cases h : NotYet 7 l
  · exact .inl (find_none h)
  · right
    have hex : ∃ k, k < 7 ∧ NotYet k l ∧ (nameL k == l) = true := by
      refine Classical.byContradiction fun hno => h ?_
      have all : ∀ k, k ≤ 7 → NotYet k l := by
        intro k
        induction k with
        | zero => intro _ j hj; omega
        | succ k ih =>
          intro hk
          refine (ih (by omega)).step ?_
          cases hg : nameL k == l with
          | false => rfl
          | true => exact absurd ⟨k, by omega, ih (by omega), hg⟩ hno
      exact all 7 (by omega)
    obtain ⟨k, hk, hn, hg⟩ := hex
    rw [find_at hk hn hg]
    exact ⟨by omega, by omega, by rw [nameL_is hk]; exact hg⟩
set_option maxRecDepth 100000 in
set_option maxHeartbeats 400000 in
theorem walk (a0 : Int) (a1 : Int) (a2 : ByteArray) (w : World) (w0 : (Lit.int .i64 a0).wf = true) (w1 : (Lit.int .i64 a1).wf = true) (w2 : a2.size ≤ maxLen) (hL : Hid (NamesIn w)) :
    Calls Tryd.prog 7 #[.int .i64 a0, .int .i64 a1, .string a2] w fun e w' => e = .returned (.bool true) ∧ Below w.heap.size w w' := by
  clear w0 w1 w2
  have HB := Below.refl w.heap.size w
  by_cases h : (1000 : Int) < (a2.size : Int)
  · go_enter Tryd.func7, Tryd.ntmps7
    go_wp2_with (first | (go_at_call 8; refine (awake_c _ (Lib.hid (hL.out.below HB))).mono ?_; rintro e w' ⟨rfl, hw⟩; replace HB := chain HB hw; clear hw))
    go_ret
    exact ⟨rfl, HB⟩
  by_cases h1 : a0 < 0
  · have e := out_empty (.inl h1)
    rcases find_is a2.toList with hk | ⟨k0, k6, hk⟩
    · have K := Lib.hid hk
      clear hk
      go_enter Tryd.func7, Tryd.ntmps7
      go_wp2_with (first | (go_at_call 8; refine (awake_c _ (Lib.hid (hL.out.below HB))).mono ?_; rintro e w' ⟨rfl, hw⟩; replace HB := chain HB hw; clear hw) | (go_at_call 17; refine (name_c _ _ (Lib.hid (hL.out.below HB))).mono ?_; rintro e w' ⟨rfl, rfl⟩; skip) | (go_at_call 19; refine (find_c _ _ (Lib.hid (hL.out.below HB))).mono ?_; rintro e w' ⟨rfl, rfl⟩; first | rw [K.out]))
      go_ret
      exact ⟨rfl, HB⟩
    · have kn : (vFind a2.toList == -1) = false := by simp; omega
      go_enter Tryd.func7, Tryd.ntmps7
      go_wp2_with (first | (go_at_call 8; refine (awake_c _ (Lib.hid (hL.out.below HB))).mono ?_; rintro e w' ⟨rfl, hw⟩; replace HB := chain HB hw; clear hw) | (go_at_call 17; refine (name_c _ _ (Lib.hid (hL.out.below HB))).mono ?_; rintro e w' ⟨rfl, rfl⟩; skip) | (go_at_call 19; refine (find_c _ _ (Lib.hid (hL.out.below HB))).mono ?_; rintro e w' ⟨rfl, rfl⟩; skip))
      go_ret
      exact ⟨rfl, HB⟩
  by_cases h2 : 6 < a0
  · have e := out_empty (.inr h2)
    rcases find_is a2.toList with hk | ⟨k0, k6, hk⟩
    · have K := Lib.hid hk
      clear hk
      go_enter Tryd.func7, Tryd.ntmps7
      go_wp2_with (first | (go_at_call 8; refine (awake_c _ (Lib.hid (hL.out.below HB))).mono ?_; rintro e w' ⟨rfl, hw⟩; replace HB := chain HB hw; clear hw) | (go_at_call 17; refine (name_c _ _ (Lib.hid (hL.out.below HB))).mono ?_; rintro e w' ⟨rfl, rfl⟩; skip) | (go_at_call 19; refine (find_c _ _ (Lib.hid (hL.out.below HB))).mono ?_; rintro e w' ⟨rfl, rfl⟩; first | rw [K.out]))
      go_ret
      exact ⟨rfl, HB⟩
    · have kn : (vFind a2.toList == -1) = false := by simp; omega
      go_enter Tryd.func7, Tryd.ntmps7
      go_wp2_with (first | (go_at_call 8; refine (awake_c _ (Lib.hid (hL.out.below HB))).mono ?_; rintro e w' ⟨rfl, hw⟩; replace HB := chain HB hw; clear hw) | (go_at_call 17; refine (name_c _ _ (Lib.hid (hL.out.below HB))).mono ?_; rintro e w' ⟨rfl, rfl⟩; skip) | (go_at_call 19; refine (find_c _ _ (Lib.hid (hL.out.below HB))).mono ?_; rintro e w' ⟨rfl, rfl⟩; skip))
      go_ret
      exact ⟨rfl, HB⟩
  have h3 : 0 ≤ a0 := by omega
  have h4 : a0 ≤ 6 := by omega
  have e := in_full h3 h4
  have F := Lib.hid (in_found h3 h4)
  by_cases hab : a0 = a1
  · subst hab
    rcases find_is a2.toList with hk | ⟨k0, k6, hk⟩
    · have K := Lib.hid hk
      clear hk
      go_enter Tryd.func7, Tryd.ntmps7
      go_wp2_with (first | (go_at_call 8; refine (awake_c _ (Lib.hid (hL.out.below HB))).mono ?_; rintro e w' ⟨rfl, hw⟩; replace HB := chain HB hw; clear hw) | (go_at_call 17; refine (name_c _ _ (Lib.hid (hL.out.below HB))).mono ?_; rintro e w' ⟨rfl, rfl⟩; skip) | (go_at_call 19; refine (find_c _ _ (Lib.hid (hL.out.below HB))).mono ?_; rintro e w' ⟨rfl, rfl⟩; first | rw [K.out] | rw [F.out]))
      go_ret
      exact ⟨rfl, HB⟩
    · have kn : (vFind a2.toList == -1) = false := by simp; omega
      go_enter Tryd.func7, Tryd.ntmps7
      go_wp2_with (first | (go_at_call 8; refine (awake_c _ (Lib.hid (hL.out.below HB))).mono ?_; rintro e w' ⟨rfl, hw⟩; replace HB := chain HB hw; clear hw) | (go_at_call 17; refine (name_c _ _ (Lib.hid (hL.out.below HB))).mono ?_; rintro e w' ⟨rfl, rfl⟩; skip) | (go_at_call 19; refine (find_c _ _ (Lib.hid (hL.out.below HB))).mono ?_; rintro e w' ⟨rfl, rfl⟩; first | rw [F.out] | skip))
      go_ret
      exact ⟨rfl, HB⟩
  · have g := in_apart h3 h4 hab
    clear hab
    rcases find_is a2.toList with hk | ⟨k0, k6, hk⟩
    · have K := Lib.hid hk
      clear hk
      go_enter Tryd.func7, Tryd.ntmps7
      go_wp2_with (first | (go_at_call 8; refine (awake_c _ (Lib.hid (hL.out.below HB))).mono ?_; rintro e w' ⟨rfl, hw⟩; replace HB := chain HB hw; clear hw) | (go_at_call 17; refine (name_c _ _ (Lib.hid (hL.out.below HB))).mono ?_; rintro e w' ⟨rfl, rfl⟩; skip) | (go_at_call 19; refine (find_c _ _ (Lib.hid (hL.out.below HB))).mono ?_; rintro e w' ⟨rfl, rfl⟩; first | rw [K.out] | rw [F.out]))
      go_ret
      exact ⟨rfl, HB⟩
    · have kn : (vFind a2.toList == -1) = false := by simp; omega
      go_enter Tryd.func7, Tryd.ntmps7
      go_wp2_with (first | (go_at_call 8; refine (awake_c _ (Lib.hid (hL.out.below HB))).mono ?_; rintro e w' ⟨rfl, hw⟩; replace HB := chain HB hw; clear hw) | (go_at_call 17; refine (name_c _ _ (Lib.hid (hL.out.below HB))).mono ?_; rintro e w' ⟨rfl, rfl⟩; skip) | (go_at_call 19; refine (find_c _ _ (Lib.hid (hL.out.below HB))).mono ?_; rintro e w' ⟨rfl, rfl⟩; first | rw [F.out] | skip))
      go_ret
      exact ⟨rfl, HB⟩

theorem contract (H : Type) (enc : TypeId × Value → H) (W : World) (base : Nat) (args : Array Value) (ds gs : List (DataW H)) (before : List MemPlace)
    (hval : ∀ (j : Nat) t v, Tryd.f7.params[j]? = some t → args[j]? = some v → Value.okWide Tryd.prog W .any base t v)
    (hW : DataW.Whole enc Tryd.prog Tryd.f7.params.toList Rows.weekdayNamesSpec.vars false W args.toList ds gs before) (hL : laidMetH Tryd.prog Rows.weekdayNamesRow.laid W) :
    Calls Tryd.prog 7 args W fun e W' => ∃ v, e = .returned v ∧ Rows.weekdayNamesSpec.post enc Tryd.prog Tryd.f7 false true false false W args v W' := by
  have hW' := hW
  obtain ⟨p, q, hA0, hV, rfl, hfz, hnd⟩ := hW
  have hA : DataW.TrodAll enc Tryd.prog W 0 (fun _ => true) true Tryd.f7.params.toList args.toList ds p := hA0
  rw [Tryd.params7] at hA hval
  obtain ⟨v0, vs0, d0, ds0, p0, q0, hargs, rfl, rfl, h0, r0⟩ := trodAll_cons hA
  obtain ⟨v1, vs1, d1, ds1, p1, q1, rfl, rfl, rfl, h1, r1⟩ := trodAll_cons r0
  obtain ⟨v2, vs2, d2, ds2, p2, q2, rfl, rfl, rfl, h2, r2⟩ := trodAll_cons r1
  obtain ⟨rfl, rfl, rfl⟩ := trodAll_nil r2
  obtain rfl : args = #[v0, v1, v2] := by cases args; simp_all
  obtain ⟨rfl, rfl⟩ := trodVars_none hV
  obtain ⟨a0, rfl, rfl, rfl, w0⟩ := open_int Tryd.underlying3 (hval 0 3 v0 rfl rfl) h0
  obtain ⟨a1, rfl, rfl, rfl, w1⟩ := open_int Tryd.underlying3 (hval 1 3 v1 rfl rfl) h1
  obtain ⟨a2, rfl, rfl, rfl, w2⟩ := open_string Tryd.underlying9 (hval 2 9 v2 rfl rfl) h2
  clear hA0
  refine (walk a0 a1 a2 W w0 w1 w2 (Lib.hid (namesIn_of_laid (W := W) hL))).mono fun e W' ⟨he, bel⟩ => ?_
  subst he
  exact ⟨_, rfl, _, _, _, [], _, [], hW', trodAll_mk1 (shut_bool Tryd.underlying4 _), (trodAll_cons_mk (shut_int Tryd.underlying3 w0) (trodAll_cons_mk (shut_int Tryd.underlying3 w1) (trodAll_cons_mk (shut_string Tryd.underlying9 w2) trodAll_mk0))), rfl, bel.frame _, fun h => by cases h⟩

noncomputable def laidWorld (os : Os) : World :=
  { World.holding Tryd.prog os ⟨#[], #[], []⟩ with heap := (World.holding Tryd.prog os ⟨#[], #[], []⟩).heap.modify 0 fun
      | .cells _ t frozen => .cells #[.string ⟨#[115, 117, 110, 100, 97, 121]⟩, .string ⟨#[109, 111, 110, 100, 97, 121]⟩, .string ⟨#[116, 117, 101, 115, 100, 97, 121]⟩, .string ⟨#[119, 101, 100, 110, 101, 115, 100, 97, 121]⟩, .string ⟨#[116, 104, 117, 114, 115, 100, 97, 121]⟩, .string ⟨#[102, 114, 105, 100, 97, 121]⟩, .string ⟨#[115, 97, 116, 117, 114, 100, 97, 121]⟩] t frozen
      | o => o }
theorem laid_met (os : Os) : laidMet Tryd.prog Rows.weekdayNamesRow.laid ((laidWorld os).forCall (fun _ _ => 0) ⟨#[], #[.int .i64 0, .int .i64 0, .string ByteArray.empty], []⟩).memory :=
  laidMet_of_run' 8 (by kernel_rfl) (by kernel_rfl)
theorem reads (os : Os) {H : Type} (enc : TypeId × Value → H) : ∃ places, DataW.whole enc Tryd.prog ((laidWorld os).forCall (fun _ _ => 0) ⟨#[], #[.int .i64 0, .int .i64 0, .string ByteArray.empty], []⟩).memory Tryd.f7.params.toList Rows.weekdayNamesSpec.vars false #[.int .i64 0, .int .i64 0, .string ByteArray.empty].toList 8 = some ([.lit (.int .i64 0), .lit (.int .i64 0), .lit (.string [])], [], places) :=
  ⟨[], by kernel_rfl⟩

set_option maxRecDepth 100000 in
theorem lifted (os : Os) (started : os.Started) (H : Type) (enc : TypeId × Value → H) (F : Stop.Interp) :
    ReturnsInHanded {} Tryd.checked os 7 .any ((OpenSpec.ofChange Rows.weekdayNamesSpec).preRow enc Tryd.prog Tryd.f7 Rows.weekdayNamesRow.domain false Rows.weekdayNamesRow.laid) (((OpenSpec.ofChange Rows.weekdayNamesSpec).at F).post enc Tryd.prog Tryd.f7 false true false false) := by
  obtain ⟨places, hx⟩ := reads os enc
  refine returnsInHanded_of_row (C := Tryd.checked) (s := OpenSpec.ofChange Rows.weekdayNamesSpec) own started (by kernel_rfl) Tryd.func7
    (witness_row_at (enc := enc) (C := Tryd.checked) false (laidWorld os) #[.int .i64 0, .int .i64 0, .string ByteArray.empty] rfl (by kernel_rfl) (by kernel_rfl) (by kernel_rfl)
      (OpenSpec.preRow_of_cond 8 hx (by kernel_rfl) (fun k hk => by cases hk) (by kernel_rfl) (laid_met os))) ?_
  intro W base args ds gs before hval hW _ _ _ hL _ _
  exact contract H enc W base args ds gs before hval hW hL

theorem said : Rows.WeekdayNamesSaid :=
  OpenClaim.holds_of_cond 7 Tryd.f7 rfl rfl rfl rfl rfl rfl rfl ⟨rfl, rfl, rfl, rfl, rfl⟩ rfl rfl rfl rfl rfl (by kernel_rfl) Tryd.func7 (by kernel_rfl)
    (of_decide_eq_true (by kernel_rfl)) (by unfold Func.isWrapper; first | (rw [if_pos (by decide +kernel)]; kernel_rfl) | (rw [if_neg (by decide +kernel)]; exact ⟨rfl, rfl⟩))
    (fun os started H enc _ F => by rw [OpenClaim.pre_eq_preRow]; exact lifted os started H enc F)

theorem plain (f : FuncId) (fn : Func) (hf : Tryd.pinned.checked.prog.funcNamed "computus/computuslaw04.WeekdayNames" = some f) (hfn : Tryd.pinned.checked.prog.funcs[f]? = some fn) :
    false = Tryd.pinned.checked.prog.looks [] ∧ ∀ (j : Nat) t, fn.params[j]? = some t → Tryd.pinned.checked.prog.wantsStandIn t = false := by
  obtain rfl : f = 7 := Option.some.inj ((show Tryd.prog.funcNamed "computus/computuslaw04.WeekdayNames" = some 7 by kernel_rfl).symm.trans hf) |>.symm
  obtain rfl : fn = Tryd.f7 := (Option.some.inj (Tryd.func7.symm.trans hfn)).symm
  refine ⟨by kernel_rfl, fun j t ht => ?_⟩
  rw [Tryd.params7] at ht
  have hm := Array.mem_of_getElem? ht
  simp only [List.mem_toArray, List.mem_cons, List.not_mem_nil, or_false] at hm
  rcases hm with rfl | rfl | rfl
  · exact (show Tryd.prog.wantsStandIn 3 = false by kernel_rfl)
  · exact (show Tryd.prog.wantsStandIn 3 = false by kernel_rfl)
  · exact (show Tryd.prog.wantsStandIn 9 = false by kernel_rfl)

theorem card : Rows.WeekdayNamesCardSaid :=
  Claim7.holds_tied_plain_at .later [] _ _ _ _ said (fun _ h => by cases h) (by kernel_rfl) (fun _ h => by cases h) weekdayNames_row_tie rfl ⟨rfl, rfl⟩ (by kernel_rfl) rfl plain (by kernel_rfl)
#print axioms card
end Go.Proofs.YtckkllbnmnpafaaDoor.weekdayNames
