/-
  The law 'JulianMatchesReference' answers true for every input, and each argument reads afterwards as it read before; the package-level variables start as the program's text lays them (the card ties that). No other condition.
  The frame follows the kit's own examples; the walk is ours.
-/
import Derived.Test.YtmdeeofeikdeeaaDoorCards
import Derived.Test.YtmdeeofeikdeeaaDoorTie
import Derived.Test.YtmdeeofeikdeeaaDoorLaid
import Derived.WalkKit
import Derived.ProofKit
import Derived.OpenShut
import Derived.ShutString
import Derived.ChangeOld
import Derived.Below
import Derived.Deep.DeepHandedRow
import Derived.Lib.SmallJoins
namespace Go.Proofs.YtmdeeofeikdeeaaDoor.julianMatchesReference
open Go.ChangeShapes Go.WideShapes Go.ChangeAt Go.RowKit Go.Joins
open Go.ChangeMaps (open_string shut_string)
set_option linter.unusedVariables false

theorem own : ownKnob Tryd.prog.godebug = none := by kernel_rfl

/-- A world of a class, as one thing. -/
structure Of (C : World → Prop) where
  val : World
  ok : C val
theorem wp_region_cls {P : Program} {C : World → Prop} {id : Nat} {Q : Exit → Act → World → Prop} {a : Act} {w : World} {l : List Oper} (hm : P.follows .mixedOrders = true) (hB : Region.lexB .any l.toArray = true) (hC : C w.drew)
    (h : wpQuiet P l.toArray (fun w' => ∃ x : Of C, w' = x.val) (fun a' => ∀ w', (∃ x : Of C, w' = x.val) → Q .normal a' w') l a) : (Code.region id l.toArray true).wp P Q a w :=
  have h' : wpQuiet P l.toArray (fun w' => ∃ x : Of C, w' = x.val) (fun a' => ∀ w', (∃ x : Of C, w' = x.val) → Q .normal a' w') l.toArray.toList a := by rw [List.toList_toArray]; exact h
  wp_region_quiet (C := fun w' => ∃ x : Of C, w' = x.val) hm hB ⟨⟨_, hC⟩, rfl⟩ h'
def Cls3 (w : World) (b0 : Nat) (y0 m0 d0 : Int) (b1 : Nat) (y1 m1 d1 : Int) (b2 : Nat) (y2 m2 d2 : Int) (w' : World) : Prop := Below w.heap.size w w' ∧ BoxAt b0 w' y0 m0 d0 ∧ BoxAt b1 w' y1 m1 d1 ∧ BoxAt b2 w' y2 m2 d2
theorem Cls3.below {w : World} {b0 : Nat} {y0 m0 d0 : Int} {b1 : Nat} {y1 m1 d1 : Int} {b2 : Nat} {y2 m2 d2 : Int} {w' w'' : World} (h : Cls3 w b0 y0 m0 d0 b1 y1 m1 d1 b2 y2 m2 d2 w') (g : Below w'.heap.size w' w'') : Cls3 w b0 y0 m0 d0 b1 y1 m1 d1 b2 y2 m2 d2 w'' := ⟨chain h.1 g, h.2.1.below g, h.2.2.1.below g, h.2.2.2.below g⟩
theorem Cls3.base {w : World} {b0 : Nat} {y0 m0 d0 : Int} {b1 : Nat} {y1 m1 d1 : Int} {b2 : Nat} {y2 m2 d2 : Int} {w' : World} (h : Cls3 w b0 y0 m0 d0 b1 y1 m1 d1 b2 y2 m2 d2 w') : Below w.heap.size w w' := h.1
theorem vFst_yes {y : Int} (h : vIn y = true) : vFst y = vFirst y ∧ vFstE y = 0 := by unfold vFst vFstE; rw [if_pos h, if_pos h]; exact ⟨rfl, rfl⟩
theorem vFst_no {y : Int} (h : vIn y = false) : vFst y = 0 ∧ vFstE y = 1 := by unfold vFst vFstE; rw [h]; exact ⟨rfl, rfl⟩

set_option maxRecDepth 100000 in
set_option maxHeartbeats 1000000 in
theorem walk_no (a0_0 a0_1 a0_2 : Int) (a1 a2 a3 : Int) (w : World) (hL : Hid (LensIn w)) (hy1 : -9223372036854775808 ≤ a2) (hy2 : a2 ≤ 9223372036854775807) (hi : vIn a2 = false) :
    Calls Tryd.prog 3 #[.agg #[.int .i64 a0_0, .int .i64 a0_1, .int .i64 a0_2], .int .i64 a1, .int .i64 a2, .int .i64 a3] w fun e w' => e = .returned (.bool true) ∧ Below w.heap.size w w' := by
  obtain ⟨f1, f2⟩ := vFst_no hi
  have F1 := Lib.hid f1
  have F2 := Lib.hid f2
  have HI := Lib.hid hi
  clear f1 f2 hi
  have HB := Below.refl w.heap.size w
  go_enter Tryd.func3, Tryd.ntmps3
  go_wp2_with fail
  have BA := BoxAt.new w (a0_0) (a0_1) (a0_2) 23
  replace HB := HB.alloc HB.size (.cells #[.int .i64 a0_0, .int .i64 a0_1, .int .i64 a0_2] 23)
  generalize w.alloc (.cells #[.int .i64 a0_0, .int .i64 a0_1, .int .i64 a0_2] 23) = wn at *
  obtain ⟨_, _, _, _⟩ := id BA
  refine (awake_c _ (Lib.hid (hL.out.below HB))).mono ?_; rintro e w1 ⟨rfl, hw⟩; replace HB := chain HB hw; replace BA := BA.below hw; clear hw; obtain ⟨_, _, _, _⟩ := id BA; skip
  go_wp2_with fail
  refine (to_c _ _ _ _ (Lib.hid (hL.out.below HB))).mono ?_; rintro e w2 ⟨rfl, hw⟩; replace HB := chain HB hw; replace BA := BA.below hw; clear hw; obtain ⟨_, _, _, _⟩ := id BA; skip
  go_wp2_with fail
  refine (rto_c _ _ _ _).mono ?_; rintro e w3 ⟨rfl, hw⟩; replace HB := chain HB hw; replace BA := BA.below hw; clear hw; obtain ⟨_, _, _, _⟩ := id BA; skip
  go_wp2_with fail
  refine (from_c _ _ (Lib.hid (hL.out.below HB))).mono ?_; rintro e w4 ⟨rfl, hw⟩; replace HB := chain HB hw; replace BA := BA.below hw; clear hw; obtain ⟨_, _, _, _⟩ := id BA; skip
  go_wp2_with fail
  have BX := BoxAt.new w4 (fY a1) (fM a1) (fD a1) 23
  replace BA := BA.below ((Below.refl _ _).alloc (Nat.le_refl _) (.cells #[.int .i64 (fY a1), .int .i64 (fM a1), .int .i64 (fD a1)] 23))
  replace HB := HB.alloc HB.size (.cells #[.int .i64 (fY a1), .int .i64 (fM a1), .int .i64 (fD a1)] 23)
  generalize w4.alloc (.cells #[.int .i64 (fY a1), .int .i64 (fM a1), .int .i64 (fD a1)] 23) = w4n at *
  generalize w4.heap.size = bBX at *
  obtain ⟨_, _, _, _⟩ := id BA
  obtain ⟨_, _, _, _⟩ := id BX
  refine (rfrom_c _ _).mono ?_; rintro e w5 ⟨rfl, hw⟩; replace HB := chain HB hw; replace BA := BA.below hw; replace BX := BX.below hw; clear hw; obtain ⟨_, _, _, _⟩ := id BA; obtain ⟨_, _, _, _⟩ := id BX; skip
  go_wp2_with fail
  have BY := BoxAt.new w5 (fY a1) (fM a1) (fD a1) 23
  replace BA := BA.below ((Below.refl _ _).alloc (Nat.le_refl _) (.cells #[.int .i64 (fY a1), .int .i64 (fM a1), .int .i64 (fD a1)] 23))
  replace BX := BX.below ((Below.refl _ _).alloc (Nat.le_refl _) (.cells #[.int .i64 (fY a1), .int .i64 (fM a1), .int .i64 (fD a1)] 23))
  replace HB := HB.alloc HB.size (.cells #[.int .i64 (fY a1), .int .i64 (fM a1), .int .i64 (fD a1)] 23)
  generalize w5.alloc (.cells #[.int .i64 (fY a1), .int .i64 (fM a1), .int .i64 (fD a1)] 23) = w5n at *
  generalize w5.heap.size = bBY at *
  obtain ⟨_, _, _, _⟩ := id BA
  obtain ⟨_, _, _, _⟩ := id BX
  obtain ⟨_, _, _, _⟩ := id BY
  refine (First_c _ _).mono ?_; rintro e w6 ⟨rfl, hw0⟩; have hw := hw0.below; clear hw0; replace HB := chain HB hw; replace BA := BA.below hw; replace BX := BX.below hw; replace BY := BY.below hw; clear hw; obtain ⟨_, _, _, _⟩ := id BA; obtain ⟨_, _, _, _⟩ := id BX; obtain ⟨_, _, _, _⟩ := id BY; rw [F1.out, F2.out]
  go_wp2_with (first | (go_at_call 15; refine (in_c _ _).mono ?_; rintro e w' ⟨rfl, rfl⟩; rw [HI.out]))
  have C0 : Cls3 w w.heap.size a0_0 a0_1 a0_2 bBX (fY a1) (fM a1) (fD a1) bBY (fY a1) (fM a1) (fD a1) w6 := ⟨HB, BA, BX, BY⟩
  clear HB BA BX BY
  have C1 := C0.below (Below.refl _ _).drew
  clear C0
  refine wp_region_cls (C := Cls3 w w.heap.size a0_0 a0_1 a0_2 bBX (fY a1) (fM a1) (fD a1) bBY (fY a1) (fM a1) (fD a1)) (by kernel_rfl) (by kernel_rfl) C1 ?_
  haveI : Nonempty (Of (Cls3 w w.heap.size a0_0 a0_1 a0_2 bBX (fY a1) (fM a1) (fD a1) bBY (fY a1) (fM a1) (fD a1))) := ⟨⟨_, C1⟩⟩
  clear C1
  have k0 : ∀ x : Of (Cls3 w w.heap.size a0_0 a0_1 a0_2 bBX (fY a1) (fM a1) (fD a1) bBY (fY a1) (fM a1) (fD a1)), x.val.cell? ⟨w.heap.size, 0, none⟩ = some (.int .i64 (a0_0)) := fun x => x.ok.2.1.2.1
  have k1 : ∀ x : Of (Cls3 w w.heap.size a0_0 a0_1 a0_2 bBX (fY a1) (fM a1) (fD a1) bBY (fY a1) (fM a1) (fD a1)), x.val.cell? ⟨w.heap.size, 1, none⟩ = some (.int .i64 (a0_1)) := fun x => x.ok.2.1.2.2.1
  have k2 : ∀ x : Of (Cls3 w w.heap.size a0_0 a0_1 a0_2 bBX (fY a1) (fM a1) (fD a1) bBY (fY a1) (fM a1) (fD a1)), x.val.cell? ⟨w.heap.size, 2, none⟩ = some (.int .i64 (a0_2)) := fun x => x.ok.2.1.2.2.2
  have x0 : ∀ x : Of (Cls3 w w.heap.size a0_0 a0_1 a0_2 bBX (fY a1) (fM a1) (fD a1) bBY (fY a1) (fM a1) (fD a1)), x.val.cell? ⟨bBX, 0, none⟩ = some (.int .i64 (fY a1)) := fun x => x.ok.2.2.1.2.1
  have x1 : ∀ x : Of (Cls3 w w.heap.size a0_0 a0_1 a0_2 bBX (fY a1) (fM a1) (fD a1) bBY (fY a1) (fM a1) (fD a1)), x.val.cell? ⟨bBX, 1, none⟩ = some (.int .i64 (fM a1)) := fun x => x.ok.2.2.1.2.2.1
  have x2 : ∀ x : Of (Cls3 w w.heap.size a0_0 a0_1 a0_2 bBX (fY a1) (fM a1) (fD a1) bBY (fY a1) (fM a1) (fD a1)), x.val.cell? ⟨bBX, 2, none⟩ = some (.int .i64 (fD a1)) := fun x => x.ok.2.2.1.2.2.2
  have z0 : ∀ x : Of (Cls3 w w.heap.size a0_0 a0_1 a0_2 bBX (fY a1) (fM a1) (fD a1) bBY (fY a1) (fM a1) (fD a1)), x.val.cell? ⟨bBY, 0, none⟩ = some (.int .i64 (fY a1)) := fun x => x.ok.2.2.2.2.1
  have z1 : ∀ x : Of (Cls3 w w.heap.size a0_0 a0_1 a0_2 bBX (fY a1) (fM a1) (fD a1) bBY (fY a1) (fM a1) (fD a1)), x.val.cell? ⟨bBY, 1, none⟩ = some (.int .i64 (fM a1)) := fun x => x.ok.2.2.2.2.2.1
  have z2 : ∀ x : Of (Cls3 w w.heap.size a0_0 a0_1 a0_2 bBX (fY a1) (fM a1) (fD a1) bBY (fY a1) (fM a1) (fD a1)), x.val.cell? ⟨bBY, 2, none⟩ = some (.int .i64 (fD a1)) := fun x => x.ok.2.2.2.2.2.2
  repeat go_big_quiet_step (first | (go_at_call 17; refine (leap_c _ _).mono ?_; rintro e w6 ⟨rfl, rfl⟩; exact ⟨rfl, ⟨_, rfl⟩⟩) | (go_at_call 18; refine (rleap_c _ _ hy1 hy2).mono ?_; rintro e w6 ⟨rfl, rfl⟩; exact ⟨rfl, ⟨_, rfl⟩⟩) | (go_at_call 19; refine (length_c _ _ _ (Lib.hid (hL.out.below (Cls3.base (Of.ok _))))).mono ?_; rintro e w6 ⟨rfl, rfl⟩; exact ⟨rfl, ⟨_, rfl⟩⟩) | (go_at_call 20; refine (rlength_c _ _ _).mono ?_; rintro e w6 ⟨rfl, rfl⟩; exact ⟨rfl, ⟨_, rfl⟩⟩) | (go_at_call 21; refine (valid_c _ _ _ _ (Lib.hid (hL.out.below (Cls3.base (Of.ok _))))).mono ?_; rintro e w6 ⟨rfl, hw⟩; exact ⟨rfl, ⟨⟨w6, Cls3.below (Of.ok _) hw⟩, rfl⟩⟩) | (go_at_call 22; refine (rvalid_c _ _ _ _).mono ?_; rintro e w6 ⟨rfl, hw⟩; exact ⟨rfl, ⟨⟨w6, Cls3.below (Of.ok _) hw⟩, rfl⟩⟩))
  refine wpQuiet_nil ?_
  rintro _ ⟨w7, rfl⟩
  have HB := w7.ok.1
  go_wp2_with fail
  go_ret
  exact ⟨rfl, HB⟩

set_option maxRecDepth 100000 in
set_option maxHeartbeats 1000000 in
theorem walk_yes (a0_0 a0_1 a0_2 : Int) (a1 a2 a3 : Int) (w : World) (hL : Hid (LensIn w)) (hy1 : -9223372036854775808 ≤ a2) (hy2 : a2 ≤ 9223372036854775807) (hi : vIn a2 = true) :
    Calls Tryd.prog 3 #[.agg #[.int .i64 a0_0, .int .i64 a0_1, .int .i64 a0_2], .int .i64 a1, .int .i64 a2, .int .i64 a3] w fun e w' => e = .returned (.bool true) ∧ Below w.heap.size w w' := by
  obtain ⟨f1, f2⟩ := vFst_yes hi
  have F1 := Lib.hid f1
  have F2 := Lib.hid f2
  have HI := Lib.hid hi
  obtain ⟨y1, y2⟩ := vIn_iff.1 hi
  clear f1 f2 hi
  have HB := Below.refl w.heap.size w
  go_enter Tryd.func3, Tryd.ntmps3
  go_wp2_with fail
  have BA := BoxAt.new w (a0_0) (a0_1) (a0_2) 23
  replace HB := HB.alloc HB.size (.cells #[.int .i64 a0_0, .int .i64 a0_1, .int .i64 a0_2] 23)
  generalize w.alloc (.cells #[.int .i64 a0_0, .int .i64 a0_1, .int .i64 a0_2] 23) = wn at *
  obtain ⟨_, _, _, _⟩ := id BA
  refine (awake_c _ (Lib.hid (hL.out.below HB))).mono ?_; rintro e w1 ⟨rfl, hw⟩; replace HB := chain HB hw; replace BA := BA.below hw; clear hw; obtain ⟨_, _, _, _⟩ := id BA; skip
  go_wp2_with fail
  refine (to_c _ _ _ _ (Lib.hid (hL.out.below HB))).mono ?_; rintro e w2 ⟨rfl, hw⟩; replace HB := chain HB hw; replace BA := BA.below hw; clear hw; obtain ⟨_, _, _, _⟩ := id BA; skip
  go_wp2_with fail
  refine (rto_c _ _ _ _).mono ?_; rintro e w3 ⟨rfl, hw⟩; replace HB := chain HB hw; replace BA := BA.below hw; clear hw; obtain ⟨_, _, _, _⟩ := id BA; skip
  go_wp2_with fail
  refine (from_c _ _ (Lib.hid (hL.out.below HB))).mono ?_; rintro e w4 ⟨rfl, hw⟩; replace HB := chain HB hw; replace BA := BA.below hw; clear hw; obtain ⟨_, _, _, _⟩ := id BA; skip
  go_wp2_with fail
  have BX := BoxAt.new w4 (fY a1) (fM a1) (fD a1) 23
  replace BA := BA.below ((Below.refl _ _).alloc (Nat.le_refl _) (.cells #[.int .i64 (fY a1), .int .i64 (fM a1), .int .i64 (fD a1)] 23))
  replace HB := HB.alloc HB.size (.cells #[.int .i64 (fY a1), .int .i64 (fM a1), .int .i64 (fD a1)] 23)
  generalize w4.alloc (.cells #[.int .i64 (fY a1), .int .i64 (fM a1), .int .i64 (fD a1)] 23) = w4n at *
  generalize w4.heap.size = bBX at *
  obtain ⟨_, _, _, _⟩ := id BA
  obtain ⟨_, _, _, _⟩ := id BX
  refine (rfrom_c _ _).mono ?_; rintro e w5 ⟨rfl, hw⟩; replace HB := chain HB hw; replace BA := BA.below hw; replace BX := BX.below hw; clear hw; obtain ⟨_, _, _, _⟩ := id BA; obtain ⟨_, _, _, _⟩ := id BX; skip
  go_wp2_with fail
  have BY := BoxAt.new w5 (fY a1) (fM a1) (fD a1) 23
  replace BA := BA.below ((Below.refl _ _).alloc (Nat.le_refl _) (.cells #[.int .i64 (fY a1), .int .i64 (fM a1), .int .i64 (fD a1)] 23))
  replace BX := BX.below ((Below.refl _ _).alloc (Nat.le_refl _) (.cells #[.int .i64 (fY a1), .int .i64 (fM a1), .int .i64 (fD a1)] 23))
  replace HB := HB.alloc HB.size (.cells #[.int .i64 (fY a1), .int .i64 (fM a1), .int .i64 (fD a1)] 23)
  generalize w5.alloc (.cells #[.int .i64 (fY a1), .int .i64 (fM a1), .int .i64 (fD a1)] 23) = w5n at *
  generalize w5.heap.size = bBY at *
  obtain ⟨_, _, _, _⟩ := id BA
  obtain ⟨_, _, _, _⟩ := id BX
  obtain ⟨_, _, _, _⟩ := id BY
  refine (First_c _ _).mono ?_; rintro e w6 ⟨rfl, hw0⟩; have hw := hw0.below; clear hw0; replace HB := chain HB hw; replace BA := BA.below hw; replace BX := BX.below hw; replace BY := BY.below hw; clear hw; obtain ⟨_, _, _, _⟩ := id BA; obtain ⟨_, _, _, _⟩ := id BX; obtain ⟨_, _, _, _⟩ := id BY; rw [F1.out, F2.out]
  go_wp2_with (first | (go_at_call 15; refine (in_c _ _).mono ?_; rintro e w' ⟨rfl, rfl⟩; rw [HI.out]) | (go_at_call 16; refine (rfirst_c _ _ (by omega) (by omega)).mono ?_; rintro e w' ⟨rfl, rfl⟩))
  have C0 : Cls3 w w.heap.size a0_0 a0_1 a0_2 bBX (fY a1) (fM a1) (fD a1) bBY (fY a1) (fM a1) (fD a1) w6 := ⟨HB, BA, BX, BY⟩
  clear HB BA BX BY
  have C1 := C0.below (Below.refl _ _).drew
  clear C0
  refine wp_region_cls (C := Cls3 w w.heap.size a0_0 a0_1 a0_2 bBX (fY a1) (fM a1) (fD a1) bBY (fY a1) (fM a1) (fD a1)) (by kernel_rfl) (by kernel_rfl) C1 ?_
  haveI : Nonempty (Of (Cls3 w w.heap.size a0_0 a0_1 a0_2 bBX (fY a1) (fM a1) (fD a1) bBY (fY a1) (fM a1) (fD a1))) := ⟨⟨_, C1⟩⟩
  clear C1
  have k0 : ∀ x : Of (Cls3 w w.heap.size a0_0 a0_1 a0_2 bBX (fY a1) (fM a1) (fD a1) bBY (fY a1) (fM a1) (fD a1)), x.val.cell? ⟨w.heap.size, 0, none⟩ = some (.int .i64 (a0_0)) := fun x => x.ok.2.1.2.1
  have k1 : ∀ x : Of (Cls3 w w.heap.size a0_0 a0_1 a0_2 bBX (fY a1) (fM a1) (fD a1) bBY (fY a1) (fM a1) (fD a1)), x.val.cell? ⟨w.heap.size, 1, none⟩ = some (.int .i64 (a0_1)) := fun x => x.ok.2.1.2.2.1
  have k2 : ∀ x : Of (Cls3 w w.heap.size a0_0 a0_1 a0_2 bBX (fY a1) (fM a1) (fD a1) bBY (fY a1) (fM a1) (fD a1)), x.val.cell? ⟨w.heap.size, 2, none⟩ = some (.int .i64 (a0_2)) := fun x => x.ok.2.1.2.2.2
  have x0 : ∀ x : Of (Cls3 w w.heap.size a0_0 a0_1 a0_2 bBX (fY a1) (fM a1) (fD a1) bBY (fY a1) (fM a1) (fD a1)), x.val.cell? ⟨bBX, 0, none⟩ = some (.int .i64 (fY a1)) := fun x => x.ok.2.2.1.2.1
  have x1 : ∀ x : Of (Cls3 w w.heap.size a0_0 a0_1 a0_2 bBX (fY a1) (fM a1) (fD a1) bBY (fY a1) (fM a1) (fD a1)), x.val.cell? ⟨bBX, 1, none⟩ = some (.int .i64 (fM a1)) := fun x => x.ok.2.2.1.2.2.1
  have x2 : ∀ x : Of (Cls3 w w.heap.size a0_0 a0_1 a0_2 bBX (fY a1) (fM a1) (fD a1) bBY (fY a1) (fM a1) (fD a1)), x.val.cell? ⟨bBX, 2, none⟩ = some (.int .i64 (fD a1)) := fun x => x.ok.2.2.1.2.2.2
  have z0 : ∀ x : Of (Cls3 w w.heap.size a0_0 a0_1 a0_2 bBX (fY a1) (fM a1) (fD a1) bBY (fY a1) (fM a1) (fD a1)), x.val.cell? ⟨bBY, 0, none⟩ = some (.int .i64 (fY a1)) := fun x => x.ok.2.2.2.2.1
  have z1 : ∀ x : Of (Cls3 w w.heap.size a0_0 a0_1 a0_2 bBX (fY a1) (fM a1) (fD a1) bBY (fY a1) (fM a1) (fD a1)), x.val.cell? ⟨bBY, 1, none⟩ = some (.int .i64 (fM a1)) := fun x => x.ok.2.2.2.2.2.1
  have z2 : ∀ x : Of (Cls3 w w.heap.size a0_0 a0_1 a0_2 bBX (fY a1) (fM a1) (fD a1) bBY (fY a1) (fM a1) (fD a1)), x.val.cell? ⟨bBY, 2, none⟩ = some (.int .i64 (fD a1)) := fun x => x.ok.2.2.2.2.2.2
  repeat go_big_quiet_step (first | (go_at_call 17; refine (leap_c _ _).mono ?_; rintro e w6 ⟨rfl, rfl⟩; exact ⟨rfl, ⟨_, rfl⟩⟩) | (go_at_call 18; refine (rleap_c _ _ hy1 hy2).mono ?_; rintro e w6 ⟨rfl, rfl⟩; exact ⟨rfl, ⟨_, rfl⟩⟩) | (go_at_call 19; refine (length_c _ _ _ (Lib.hid (hL.out.below (Cls3.base (Of.ok _))))).mono ?_; rintro e w6 ⟨rfl, rfl⟩; exact ⟨rfl, ⟨_, rfl⟩⟩) | (go_at_call 20; refine (rlength_c _ _ _).mono ?_; rintro e w6 ⟨rfl, rfl⟩; exact ⟨rfl, ⟨_, rfl⟩⟩) | (go_at_call 21; refine (valid_c _ _ _ _ (Lib.hid (hL.out.below (Cls3.base (Of.ok _))))).mono ?_; rintro e w6 ⟨rfl, hw⟩; exact ⟨rfl, ⟨⟨w6, Cls3.below (Of.ok _) hw⟩, rfl⟩⟩) | (go_at_call 22; refine (rvalid_c _ _ _ _).mono ?_; rintro e w6 ⟨rfl, hw⟩; exact ⟨rfl, ⟨⟨w6, Cls3.below (Of.ok _) hw⟩, rfl⟩⟩))
  refine wpQuiet_nil ?_
  rintro _ ⟨w7, rfl⟩
  have HB := w7.ok.1
  go_wp2_with fail
  go_ret
  exact ⟨rfl, HB⟩

set_option maxRecDepth 100000 in
set_option maxHeartbeats 400000 in
theorem walk (a0_0 a0_1 a0_2 : Int) (a1 : Int) (a2 : Int) (a3 : Int) (w : World) (w0_0 : (Lit.int .i64 a0_0).wf = true) (w0_1 : (Lit.int .i64 a0_1).wf = true) (w0_2 : (Lit.int .i64 a0_2).wf = true) (w1 : (Lit.int .i64 a1).wf = true) (w2 : (Lit.int .i64 a2).wf = true) (w3 : (Lit.int .i64 a3).wf = true) (hL : Hid (LensIn w)) :
    Calls Tryd.prog 3 #[.agg #[.int .i64 a0_0, .int .i64 a0_1, .int .i64 a0_2], .int .i64 a1, .int .i64 a2, .int .i64 a3] w fun e w' => e = .returned (.bool true) ∧ Below w.heap.size w w' := by
  obtain ⟨hy1, hy2⟩ := bounds_i64 w2
  clear w0_0 w0_1 w0_2 w1 w2 w3
  cases hi : vIn a2
  · exact walk_no _ _ _ _ _ _ w hL hy1 hy2 hi
  · exact walk_yes _ _ _ _ _ _ w hL hy1 hy2 hi

theorem contract (H : Type) (enc : TypeId × Value → H) (W : World) (base : Nat) (args : Array Value) (ds gs : List (DataW H)) (before : List MemPlace)
    (hval : ∀ (j : Nat) t v, Tryd.f3.params[j]? = some t → args[j]? = some v → Value.okWide Tryd.prog W .any base t v)
    (hW : DataW.Whole enc Tryd.prog Tryd.f3.params.toList Rows.julianMatchesReferenceSpec.vars false W args.toList ds gs before) (hL : laidMetH Tryd.prog Rows.julianMatchesReferenceRow.laid W) :
    Calls Tryd.prog 3 args W fun e W' => ∃ v, e = .returned v ∧ Rows.julianMatchesReferenceSpec.post enc Tryd.prog Tryd.f3 false true false false W args v W' := by
  have hW' := hW
  obtain ⟨p, q, hA0, hV, rfl, hfz, hnd⟩ := hW
  have hA : DataW.TrodAll enc Tryd.prog W 0 (fun _ => true) true Tryd.f3.params.toList args.toList ds p := hA0
  rw [Tryd.params3] at hA hval
  obtain ⟨v0, vs0, d0, ds0, p0, q0, hargs, rfl, rfl, h0, r0⟩ := trodAll_cons hA
  obtain ⟨v1, vs1, d1, ds1, p1, q1, rfl, rfl, rfl, h1, r1⟩ := trodAll_cons r0
  obtain ⟨v2, vs2, d2, ds2, p2, q2, rfl, rfl, rfl, h2, r2⟩ := trodAll_cons r1
  obtain ⟨v3, vs3, d3, ds3, p3, q3, rfl, rfl, rfl, h3, r3⟩ := trodAll_cons r2
  obtain ⟨rfl, rfl, rfl⟩ := trodAll_nil r3
  obtain rfl : args = #[v0, v1, v2, v3] := by cases args; simp_all
  obtain ⟨rfl, rfl⟩ := trodVars_none hV
  obtain ⟨c0_0, c0_1, c0_2, y0_0, y0_1, y0_2, m0, rfl, rfl, rfl, g0_0, g0_1, g0_2⟩ := open_agg3 Tryd.underlying23 (by kernel_rfl) cells23 (hval 0 23 v0 rfl rfl) h0
  obtain ⟨a0_0, e0_0, rfl, w0_0⟩ := DataW.trod_int Tryd.underlying3 g0_0
  simp at e0_0
  subst e0_0
  obtain ⟨a0_1, e0_1, rfl, w0_1⟩ := DataW.trod_int Tryd.underlying3 g0_1
  simp at e0_1
  subst e0_1
  obtain ⟨a0_2, e0_2, rfl, w0_2⟩ := DataW.trod_int Tryd.underlying3 g0_2
  simp at e0_2
  subst e0_2
  obtain ⟨a1, rfl, rfl, rfl, w1⟩ := open_int Tryd.underlying3 (hval 1 3 v1 rfl rfl) h1
  obtain ⟨a2, rfl, rfl, rfl, w2⟩ := open_int Tryd.underlying3 (hval 2 3 v2 rfl rfl) h2
  obtain ⟨a3, rfl, rfl, rfl, w3⟩ := open_int Tryd.underlying3 (hval 3 3 v3 rfl rfl) h3
  clear hA0
  refine (walk a0_0 a0_1 a0_2 a1 a2 a3 W w0_0 w0_1 w0_2 w1 w2 w3 (Lib.hid (lensIn_of_laid (W := W) hL))).mono fun e W' ⟨he, bel⟩ => ?_
  subst he
  exact ⟨_, rfl, _, _, _, [], _, [], hW', trodAll_mk1 (shut_bool Tryd.underlying4 _), (trodAll_cons_mk (shut_agg3 (y0 := (.lit (.int .i64 a0_0), [])) (y1 := (.lit (.int .i64 a0_1), [])) (y2 := (.lit (.int .i64 a0_2), [])) Tryd.underlying23 (by kernel_rfl) cells23 ⟨1, by simp [DataW.trod, Tryd.underlying3, w0_0]⟩ ⟨1, by simp [DataW.trod, Tryd.underlying3, w0_1]⟩ ⟨1, by simp [DataW.trod, Tryd.underlying3, w0_2]⟩) (trodAll_cons_mk (shut_int Tryd.underlying3 w1) (trodAll_cons_mk (shut_int Tryd.underlying3 w2) (trodAll_cons_mk (shut_int Tryd.underlying3 w3) trodAll_mk0)))), rfl, bel.frame _, fun h => by cases h⟩

noncomputable def laidWorld (os : Os) : World :=
  { World.holding Tryd.prog os ⟨#[], #[], []⟩ with heap := (World.holding Tryd.prog os ⟨#[], #[], []⟩).heap.modify 0 fun
      | .cells _ t frozen => .cells #[.int .i64 31, .int .i64 28, .int .i64 31, .int .i64 30, .int .i64 31, .int .i64 30, .int .i64 31, .int .i64 31, .int .i64 30, .int .i64 31, .int .i64 30, .int .i64 31] t frozen
      | o => o }
theorem laid_met (os : Os) : laidMet Tryd.prog Rows.julianMatchesReferenceRow.laid ((laidWorld os).forCall (fun _ _ => 0) ⟨#[], #[.agg #[.int .i64 0, .int .i64 0, .int .i64 0], .int .i64 0, .int .i64 0, .int .i64 0], []⟩).memory :=
  laidMet_of_run' 8 (by kernel_rfl) (by kernel_rfl)
theorem reads (os : Os) {H : Type} (enc : TypeId × Value → H) : ∃ places, DataW.whole enc Tryd.prog ((laidWorld os).forCall (fun _ _ => 0) ⟨#[], #[.agg #[.int .i64 0, .int .i64 0, .int .i64 0], .int .i64 0, .int .i64 0, .int .i64 0], []⟩).memory Tryd.f3.params.toList Rows.julianMatchesReferenceSpec.vars false #[.agg #[.int .i64 0, .int .i64 0, .int .i64 0], .int .i64 0, .int .i64 0, .int .i64 0].toList 8 = some ([.agg [.lit (.int .i64 0), .lit (.int .i64 0), .lit (.int .i64 0)], .lit (.int .i64 0), .lit (.int .i64 0), .lit (.int .i64 0)], [], places) :=
  ⟨[], by kernel_rfl⟩

set_option maxRecDepth 100000 in
theorem lifted (os : Os) (started : os.Started) (H : Type) (enc : TypeId × Value → H) (F : Stop.Interp) :
    ReturnsInHanded {} Tryd.checked os 3 .any ((OpenSpec.ofChange Rows.julianMatchesReferenceSpec).preRow enc Tryd.prog Tryd.f3 Rows.julianMatchesReferenceRow.domain false Rows.julianMatchesReferenceRow.laid) (((OpenSpec.ofChange Rows.julianMatchesReferenceSpec).at F).post enc Tryd.prog Tryd.f3 false true false false) := by
  obtain ⟨places, hx⟩ := reads os enc
  refine returnsInHanded_of_row (C := Tryd.checked) (s := OpenSpec.ofChange Rows.julianMatchesReferenceSpec) own started (by kernel_rfl) Tryd.func3
    (witness_row_at (enc := enc) (C := Tryd.checked) false (laidWorld os) #[.agg #[.int .i64 0, .int .i64 0, .int .i64 0], .int .i64 0, .int .i64 0, .int .i64 0] rfl (by kernel_rfl) (by kernel_rfl) (by kernel_rfl)
      (OpenSpec.preRow_of_cond 8 hx (by kernel_rfl) (fun k hk => by cases hk) (by kernel_rfl) (laid_met os))) ?_
  intro W base args ds gs before hval hW _ _ _ hL _ _
  exact contract H enc W base args ds gs before hval hW hL

theorem said : Rows.JulianMatchesReferenceSaid :=
  OpenClaim.holds_of_cond 3 Tryd.f3 rfl rfl rfl rfl rfl rfl rfl ⟨rfl, rfl, rfl, rfl, rfl⟩ rfl rfl rfl rfl rfl (by kernel_rfl) Tryd.func3 (by kernel_rfl)
    (of_decide_eq_true (by kernel_rfl)) (by unfold Func.isWrapper; first | (rw [if_pos (by decide +kernel)]; kernel_rfl) | (rw [if_neg (by decide +kernel)]; exact ⟨rfl, rfl⟩))
    (fun os started H enc _ F => by rw [OpenClaim.pre_eq_preRow]; exact lifted os started H enc F)

theorem plain (f : FuncId) (fn : Func) (hf : Tryd.pinned.checked.prog.funcNamed "computus/computuslaw02.JulianMatchesReference" = some f) (hfn : Tryd.pinned.checked.prog.funcs[f]? = some fn) :
    false = Tryd.pinned.checked.prog.looks [] ∧ ∀ (j : Nat) t, fn.params[j]? = some t → Tryd.pinned.checked.prog.wantsStandIn t = false := by
  obtain rfl : f = 3 := Option.some.inj ((show Tryd.prog.funcNamed "computus/computuslaw02.JulianMatchesReference" = some 3 by kernel_rfl).symm.trans hf) |>.symm
  obtain rfl : fn = Tryd.f3 := (Option.some.inj (Tryd.func3.symm.trans hfn)).symm
  refine ⟨by kernel_rfl, fun j t ht => ?_⟩
  rw [Tryd.params3] at ht
  have hm := Array.mem_of_getElem? ht
  simp only [List.mem_toArray, List.mem_cons, List.not_mem_nil, or_false] at hm
  rcases hm with rfl | rfl | rfl | rfl
  · exact (show Tryd.prog.wantsStandIn 23 = false by kernel_rfl)
  · exact (show Tryd.prog.wantsStandIn 3 = false by kernel_rfl)
  · exact (show Tryd.prog.wantsStandIn 3 = false by kernel_rfl)
  · exact (show Tryd.prog.wantsStandIn 3 = false by kernel_rfl)

theorem card : Rows.JulianMatchesReferenceCardSaid :=
  Claim7.holds_tied_plain_at .later [] _ _ _ _ said (fun _ h => by cases h) (by kernel_rfl) (fun _ h => by cases h) julianMatchesReference_row_tie rfl ⟨rfl, rfl⟩ (by kernel_rfl) rfl plain (by kernel_rfl)
#print axioms card
end Go.Proofs.YtmdeeofeikdeeaaDoor.julianMatchesReference
