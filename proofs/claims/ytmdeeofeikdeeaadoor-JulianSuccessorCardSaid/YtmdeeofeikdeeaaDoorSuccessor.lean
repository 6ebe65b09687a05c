/-
  The law 'JulianSuccessor' answers true for every input, and each argument reads afterwards as it read before; the package-level variables start as the program's text lays them (the card ties that). No other condition.
  The frame follows the kit's own examples; the walk is ours.
-/
import Derived.Test.YtmdeeofeikdeeaaDoorCards
import Derived.Test.YtmdeeofeikdeeaaDoorTie
import Derived.Test.YtmdeeofeikdeeaaDoorLaid
import Derived.WalkKit
import Derived.ProofKit
import Derived.OpenShut
import Derived.ShutString
import Derived.ChangeOld
import Derived.Below
import Derived.Deep.DeepHandedRow
import Derived.Lib.SmallJoins
namespace Go.Proofs.YtmdeeofeikdeeaaDoor.julianSuccessor
open Go.ChangeShapes Go.WideShapes Go.ChangeAt Go.RowKit Go.Joins
open Go.ChangeMaps (open_string shut_string)
set_option linter.unusedVariables false

theorem own : ownKnob Tryd.prog.godebug = none := by kernel_rfl

theorem nextDay {n : Int} (h0 : -1 ≤ n) (h1 : n < 365249999998) : vYear (n + 1) = nY (vYear n) (mMon n) (mDay n) (vLeap (vYear n)) ∧ mMon (n + 1) = nM (vYear n) (mMon n) (mDay n) (vLeap (vYear n)) ∧ mDay (n + 1) = nD (vYear n) (mMon n) (mDay n) (vLeap (vYear n)) := by
  obtain ⟨v, t⟩ := from_valid h0 (by omega)
  obtain ⟨m1, m2⟩ := vValid_month v
  obtain ⟨⟨y1, y2⟩, d1, d2⟩ := vValid_iff.1 v
  have key : vValid (nY (vYear n) (mMon n) (mDay n) (vLeap (vYear n))) (nM (vYear n) (mMon n) (mDay n) (vLeap (vYear n))) (nD (vYear n) (mMon n) (mDay n) (vLeap (vYear n))) = true ∧ vTo (nY (vYear n) (mMon n) (mDay n) (vLeap (vYear n))) (nM (vYear n) (mMon n) (mDay n) (vLeap (vYear n))) (nD (vYear n) (mMon n) (mDay n) (vLeap (vYear n))) = n + 1 := by
    have sc := vCum_succ (b := vLeap (vYear n)) m1 m2
    unfold nY nM nD
    by_cases hd : mDay n < vLen (vLeap (vYear n)) (mMon n)
    · rw [if_pos hd, if_pos hd, if_pos hd]
      exact ⟨vValid_iff.2 ⟨⟨y1, y2⟩, by omega, by omega⟩, by unfold vTo at *; omega⟩
    · rw [if_neg hd, if_neg hd, if_neg hd]
      by_cases hm : mMon n < 12
      · rw [if_pos hm, if_pos hm]
        have l := vLen_in (b := vLeap (vYear n)) (m := mMon n + 1) (by omega) (by omega)
        exact ⟨vValid_iff.2 ⟨⟨y1, y2⟩, by omega, by omega⟩, by unfold vTo at *; omega⟩
      · rw [if_neg hm, if_neg hm]
        have em : mMon n = 12 := by omega
        have e13 := vCum_end (vLeap (vYear n))
        rw [em] at sc
        simp only [Int.reduceAdd] at sc
        have fs := vFirst_succ (vYear n)
        have hy : vYear n + 1 ≤ 1000000000 := by
          refine Classical.byContradiction fun hc => ?_
          have e : vYear n = 1000000000 := by omega
          have := vFirst_end
          rw [e] at fs
          unfold vTo at t
          rw [em, e] at t
          rw [em, e] at hd
          rw [e] at sc e13
          simp only [Int.reduceAdd] at fs
          omega
        have l := vLen_in (b := vLeap (vYear n + 1)) (m := 1) (by omega) (by omega)
        have c1 := vCum_one (vLeap (vYear n + 1))
        refine ⟨vValid_iff.2 ⟨⟨by omega, hy⟩, by omega, by omega⟩, ?_⟩
        unfold vTo at *
        rw [em] at t hd d2
        omega
  obtain ⟨_, e1, e2, e3⟩ := to_from key.1
  rw [key.2] at e1 e2 e3
  exact ⟨e1, e2, e3⟩

/-- What the last statement's calls leave as it was. -/
def Cls (w : World) (b1 : Nat) (y1 m1 d1 : Int) (b2 : Nat) (y2 m2 d2 : Int) (w' : World) : Prop := Below w.heap.size w w' ∧ BoxAt b1 w' y1 m1 d1 ∧ BoxAt b2 w' y2 m2 d2
theorem Cls.below {w : World} {b1 : Nat} {y1 m1 d1 : Int} {b2 : Nat} {y2 m2 d2 : Int} {w' w'' : World} (h : Cls w b1 y1 m1 d1 b2 y2 m2 d2 w') (g : Below w'.heap.size w' w'') : Cls w b1 y1 m1 d1 b2 y2 m2 d2 w'' := ⟨chain h.1 g, h.2.1.below g, h.2.2.below g⟩

/-- A world of a class, as one thing. -/
structure Of (C : World → Prop) where
  val : World
  ok : C val
theorem wp_region_cls {P : Program} {C : World → Prop} {id : Nat} {Q : Exit → Act → World → Prop} {a : Act} {w : World} {l : List Oper} (hm : P.follows .mixedOrders = true) (hB : Region.lexB .any l.toArray = true) (hC : C w.drew)
    (h : wpQuiet P l.toArray (fun w' => ∃ x : Of C, w' = x.val) (fun a' => ∀ w', (∃ x : Of C, w' = x.val) → Q .normal a' w') l a) : (Code.region id l.toArray true).wp P Q a w :=
  have h' : wpQuiet P l.toArray (fun w' => ∃ x : Of C, w' = x.val) (fun a' => ∀ w', (∃ x : Of C, w' = x.val) → Q .normal a' w') l.toArray.toList a := by rw [List.toList_toArray]; exact h
  wp_region_quiet (C := fun w' => ∃ x : Of C, w' = x.val) hm hB ⟨⟨_, hC⟩, rfl⟩ h'
set_option maxRecDepth 100000 in
set_option maxHeartbeats 400000 in
theorem walk (a0 : Int) (w : World) (w0 : (Lit.int .i64 a0).wf = true) (hL : Hid (LensIn w)) :
    Calls Tryd.prog 5 #[.int .i64 a0] w fun e w' => e = .returned (.bool true) ∧ Below w.heap.size w w' := by
  obtain ⟨hn1, hn2⟩ := bounds_i64 w0
  clear w0
  by_cases h : a0 < -1
  · have HB := Below.refl w.heap.size w
    go_enter Tryd.func5, Tryd.ntmps5
    go_wp2_with (go_at_call 9; refine (awake_c _ (Lib.hid (hL.out.below HB))).mono ?_; rintro e w' ⟨rfl, hw⟩; replace HB := chain HB hw; clear hw)
    go_ret
    exact ⟨rfl, HB⟩
  have E1 := vFirst_end
  by_cases h2 : 365249999997 < a0
  · have E := Lib.hid E1
    clear E1
    have HB := Below.refl w.heap.size w
    go_enter Tryd.func5, Tryd.ntmps5
    go_wp2_with (first | (go_at_call 9; refine (awake_c _ (Lib.hid (hL.out.below HB))).mono ?_; rintro e w' ⟨rfl, hw⟩; replace HB := chain HB hw; clear hw) | (go_at_call 16; refine (rfirst_c _ _ (by omega) (by omega)).mono ?_; rintro e w' ⟨rfl, rfl⟩; rw [E.out]))
    go_ret
    exact ⟨rfl, HB⟩
  have g1 : -1 ≤ a0 := by omega
  have g2 : a0 ≤ 365249999997 := by omega
  have k1 : vDayOk a0 = true := vDayOk_iff.2 ⟨by omega, by omega⟩
  have k2 : vDayOk (a0 + 1) = true := vDayOk_iff.2 ⟨by omega, by omega⟩
  obtain ⟨n1, n2, n3⟩ := nextDay g1 (by omega)
  obtain ⟨v, _⟩ := from_valid g1 (show a0 < 365249999999 by omega)
  obtain ⟨m1, m2⟩ := vValid_month v
  obtain ⟨⟨y1, y2⟩, d1, d2⟩ := vValid_iff.1 v
  have F1 := Lib.hid (show fY a0 = vYear a0 by unfold fY; rw [if_pos k1])
  have F2 := Lib.hid (show fM a0 = mMon a0 by unfold fM; rw [if_pos k1])
  have F3 := Lib.hid (show fD a0 = mDay a0 by unfold fD; rw [if_pos k1])
  have F4 := Lib.hid (show fE a0 = 0 by unfold fE; rw [if_pos k1])
  have G1 := Lib.hid (show fY (a0 + 1) = nY (vYear a0) (mMon a0) (mDay a0) (vLeap (vYear a0)) by unfold fY; rw [if_pos k2, n1])
  have G2 := Lib.hid (show fM (a0 + 1) = nM (vYear a0) (mMon a0) (mDay a0) (vLeap (vYear a0)) by unfold fM; rw [if_pos k2, n2])
  have G3 := Lib.hid (show fD (a0 + 1) = nD (vYear a0) (mMon a0) (mDay a0) (vLeap (vYear a0)) by unfold fD; rw [if_pos k2, n3])
  have G4 := Lib.hid (show fE (a0 + 1) = 0 by unfold fE; rw [if_pos k2])
  have E := Lib.hid E1
  clear h h2 E1 k1 k2 n1 n2 n3 v d2
  generalize vYear a0 = y at *
  generalize mMon a0 = m at *
  generalize mDay a0 = d at *
  generalize hb : vLeap y = b at *
  have B := Lib.hid hb
  clear hb
  generalize hy' : nY y m d b = y' at *
  generalize hm' : nM y m d b = m' at *
  generalize hd' : nD y m d b = d' at *
  have NY := Lib.hid hy'
  have NM := Lib.hid hm'
  have ND := Lib.hid hd'
  clear hy' hm' hd'
  have HB := Below.refl w.heap.size w
  go_enter Tryd.func5, Tryd.ntmps5
  go_wp2_with fail
  refine (awake_c _ (Lib.hid (hL.out.below HB))).mono ?_; rintro e w1 ⟨rfl, hw⟩; replace HB := chain HB hw; clear hw; skip
  go_wp2_with fail
  refine (rfirst_c _ _ (by omega) (by omega)).mono ?_; rintro e w2 ⟨rfl, rfl⟩; rw [E.out]
  go_wp2_with fail
  refine (from_c _ _ (Lib.hid (hL.out.below HB))).mono ?_; rintro e w3 ⟨rfl, hw⟩; replace HB := chain HB hw; clear hw; rw [F1.out, F2.out, F3.out, F4.out]
  go_wp2_with fail
  have BX := BoxAt.new w3 (y) (m) (d) 23
  replace HB := HB.alloc HB.size (.cells #[.int .i64 y, .int .i64 m, .int .i64 d] 23)
  generalize w3.alloc (.cells #[.int .i64 y, .int .i64 m, .int .i64 d] 23) = w3n at *
  generalize w3.heap.size = bBX at *
  obtain ⟨_, _, _, _⟩ := id BX
  refine (from_c _ _ (Lib.hid (hL.out.below HB))).mono ?_; rintro e w4 ⟨rfl, hw⟩; replace HB := chain HB hw; replace BX := BX.below hw; clear hw; obtain ⟨_, _, _, _⟩ := id BX; rw [G1.out, G2.out, G3.out, G4.out]
  go_wp2_with fail
  have BY := BoxAt.new w4 (y') (m') (d') 23
  replace BX := BX.below ((Below.refl _ _).alloc (Nat.le_refl _) (.cells #[.int .i64 (y'), .int .i64 (m'), .int .i64 (d')] 23))
  replace HB := HB.alloc HB.size (.cells #[.int .i64 (y'), .int .i64 (m'), .int .i64 (d')] 23)
  generalize w4.alloc (.cells #[.int .i64 (y'), .int .i64 (m'), .int .i64 (d')] 23) = w4n at *
  generalize w4.heap.size = bBY at *
  obtain ⟨_, _, _, _⟩ := id BX
  obtain ⟨_, _, _, _⟩ := id BY
  have C0 : Cls w bBX y m d bBY y' m' d' w4n := ⟨HB, BX, BY⟩
  clear HB BX BY
  have C1 := C0.below (Below.refl _ _).drew
  clear C0
  refine wp_region_cls (C := Cls w bBX y m d bBY y' m' d') (by kernel_rfl) (by kernel_rfl) C1 ?_
  haveI : Nonempty (Of (Cls w bBX y m d bBY y' m' d')) := ⟨⟨_, C1⟩⟩
  clear C1
  have x0 : ∀ x : Of (Cls w bBX y m d bBY y' m' d'), x.val.cell? ⟨bBX, 0, none⟩ = some (.int .i64 y) := fun x => x.ok.2.1.2.1
  have x1 : ∀ x : Of (Cls w bBX y m d bBY y' m' d'), x.val.cell? ⟨bBX, 1, none⟩ = some (.int .i64 m) := fun x => x.ok.2.1.2.2.1
  have x2 : ∀ x : Of (Cls w bBX y m d bBY y' m' d'), x.val.cell? ⟨bBX, 2, none⟩ = some (.int .i64 d) := fun x => x.ok.2.1.2.2.2
  have z0 : ∀ x : Of (Cls w bBX y m d bBY y' m' d'), x.val.cell? ⟨bBY, 0, none⟩ = some (.int .i64 y') := fun x => x.ok.2.2.2.1
  have z1 : ∀ x : Of (Cls w bBX y m d bBY y' m' d'), x.val.cell? ⟨bBY, 1, none⟩ = some (.int .i64 m') := fun x => x.ok.2.2.2.2.1
  have z2 : ∀ x : Of (Cls w bBX y m d bBY y' m' d'), x.val.cell? ⟨bBY, 2, none⟩ = some (.int .i64 d') := fun x => x.ok.2.2.2.2.2
  repeat go_big_quiet_step (first | (go_at_call 17; refine (leap_c _ _).mono ?_; rintro e w6 ⟨rfl, rfl⟩; rw [B.out]; exact ⟨rfl, ⟨_, rfl⟩⟩) | (go_at_call 23; refine (next_c _ _ _ _ _ y1 y2 m1 m2 d1).mono ?_; rintro e w6 ⟨rfl, hw⟩; rw [NY.out, NM.out, ND.out]; exact ⟨rfl, ⟨⟨w6, Cls.below (Of.ok _) hw⟩, rfl⟩⟩))
  refine wpQuiet_nil ?_
  rintro _ ⟨w5, rfl⟩
  have HB := w5.ok.1
  go_wp2_with fail
  go_ret
  exact ⟨rfl, HB⟩

theorem contract (H : Type) (enc : TypeId × Value → H) (W : World) (base : Nat) (args : Array Value) (ds gs : List (DataW H)) (before : List MemPlace)
    (hval : ∀ (j : Nat) t v, Tryd.f5.params[j]? = some t → args[j]? = some v → Value.okWide Tryd.prog W .any base t v)
    (hW : DataW.Whole enc Tryd.prog Tryd.f5.params.toList Rows.julianSuccessorSpec.vars false W args.toList ds gs before) (hL : laidMetH Tryd.prog Rows.julianSuccessorRow.laid W) :
    Calls Tryd.prog 5 args W fun e W' => ∃ v, e = .returned v ∧ Rows.julianSuccessorSpec.post enc Tryd.prog Tryd.f5 false true false false W args v W' := by
  have hW' := hW
  obtain ⟨p, q, hA0, hV, rfl, hfz, hnd⟩ := hW
  have hA : DataW.TrodAll enc Tryd.prog W 0 (fun _ => true) true Tryd.f5.params.toList args.toList ds p := hA0
  rw [Tryd.params5] at hA hval
  obtain ⟨v0, vs0, d0, ds0, p0, q0, hargs, rfl, rfl, h0, r0⟩ := trodAll_cons hA
  obtain ⟨rfl, rfl, rfl⟩ := trodAll_nil r0
  obtain rfl : args = #[v0] := by cases args; simp_all
  obtain ⟨rfl, rfl⟩ := trodVars_none hV
  obtain ⟨a0, rfl, rfl, rfl, w0⟩ := open_int Tryd.underlying3 (hval 0 3 v0 rfl rfl) h0
  clear hA0
  refine (walk a0 W w0 (Lib.hid (lensIn_of_laid (W := W) hL))).mono fun e W' ⟨he, bel⟩ => ?_
  subst he
  exact ⟨_, rfl, _, _, _, [], _, [], hW', trodAll_mk1 (shut_bool Tryd.underlying4 _), (trodAll_cons_mk (shut_int Tryd.underlying3 w0) trodAll_mk0), rfl, bel.frame _, fun h => by cases h⟩

noncomputable def laidWorld (os : Os) : World :=
  { World.holding Tryd.prog os ⟨#[], #[], []⟩ with heap := (World.holding Tryd.prog os ⟨#[], #[], []⟩).heap.modify 0 fun
      | .cells _ t frozen => .cells #[.int .i64 31, .int .i64 28, .int .i64 31, .int .i64 30, .int .i64 31, .int .i64 30, .int .i64 31, .int .i64 31, .int .i64 30, .int .i64 31, .int .i64 30, .int .i64 31] t frozen
      | o => o }
theorem laid_met (os : Os) : laidMet Tryd.prog Rows.julianSuccessorRow.laid ((laidWorld os).forCall (fun _ _ => 0) ⟨#[], #[.int .i64 0], []⟩).memory :=
  laidMet_of_run' 8 (by kernel_rfl) (by kernel_rfl)
theorem reads (os : Os) {H : Type} (enc : TypeId × Value → H) : ∃ places, DataW.whole enc Tryd.prog ((laidWorld os).forCall (fun _ _ => 0) ⟨#[], #[.int .i64 0], []⟩).memory Tryd.f5.params.toList Rows.julianSuccessorSpec.vars false #[.int .i64 0].toList 8 = some ([.lit (.int .i64 0)], [], places) :=
  ⟨[], by kernel_rfl⟩

set_option maxRecDepth 100000 in
theorem lifted (os : Os) (started : os.Started) (H : Type) (enc : TypeId × Value → H) (F : Stop.Interp) :
    ReturnsInHanded {} Tryd.checked os 5 .any ((OpenSpec.ofChange Rows.julianSuccessorSpec).preRow enc Tryd.prog Tryd.f5 Rows.julianSuccessorRow.domain false Rows.julianSuccessorRow.laid) (((OpenSpec.ofChange Rows.julianSuccessorSpec).at F).post enc Tryd.prog Tryd.f5 false true false false) := by
  obtain ⟨places, hx⟩ := reads os enc
  refine returnsInHanded_of_row (C := Tryd.checked) (s := OpenSpec.ofChange Rows.julianSuccessorSpec) own started (by kernel_rfl) Tryd.func5
    (witness_row_at (enc := enc) (C := Tryd.checked) false (laidWorld os) #[.int .i64 0] rfl (by kernel_rfl) (by kernel_rfl) (by kernel_rfl)
      (OpenSpec.preRow_of_cond 8 hx (by kernel_rfl) (fun k hk => by cases hk) (by kernel_rfl) (laid_met os))) ?_
  intro W base args ds gs before hval hW _ _ _ hL _ _
  exact contract H enc W base args ds gs before hval hW hL

theorem said : Rows.JulianSuccessorSaid :=
  OpenClaim.holds_of_cond 5 Tryd.f5 rfl rfl rfl rfl rfl rfl rfl ⟨rfl, rfl, rfl, rfl, rfl⟩ rfl rfl rfl rfl rfl (by kernel_rfl) Tryd.func5 (by kernel_rfl)
    (of_decide_eq_true (by kernel_rfl)) (by unfold Func.isWrapper; first | (rw [if_pos (by decide +kernel)]; kernel_rfl) | (rw [if_neg (by decide +kernel)]; exact ⟨rfl, rfl⟩))
    (fun os started H enc _ F => by rw [OpenClaim.pre_eq_preRow]; exact lifted os started H enc F)

theorem plain (f : FuncId) (fn : Func) (hf : Tryd.pinned.checked.prog.funcNamed "computus/computuslaw02.JulianSuccessor" = some f) (hfn : Tryd.pinned.checked.prog.funcs[f]? = some fn) :
    false = Tryd.pinned.checked.prog.looks [] ∧ ∀ (j : Nat) t, fn.params[j]? = some t → Tryd.pinned.checked.prog.wantsStandIn t = false := by
  obtain rfl : f = 5 := Option.some.inj ((show Tryd.prog.funcNamed "computus/computuslaw02.JulianSuccessor" = some 5 by kernel_rfl).symm.trans hf) |>.symm
  obtain rfl : fn = Tryd.f5 := (Option.some.inj (Tryd.func5.symm.trans hfn)).symm
  refine ⟨by kernel_rfl, fun j t ht => ?_⟩
  rw [Tryd.params5] at ht
  have hm := Array.mem_of_getElem? ht
  simp only [List.mem_toArray, List.mem_cons, List.not_mem_nil, or_false] at hm
  rcases hm with rfl
  · exact (show Tryd.prog.wantsStandIn 3 = false by kernel_rfl)

theorem card : Rows.JulianSuccessorCardSaid :=
  Claim7.holds_tied_plain_at .later [] _ _ _ _ said (fun _ h => by cases h) (by kernel_rfl) (fun _ h => by cases h) julianSuccessor_row_tie rfl ⟨rfl, rfl⟩ (by kernel_rfl) rfl plain (by kernel_rfl)
#print axioms card
end Go.Proofs.YtmdeeofeikdeeaaDoor.julianSuccessor
