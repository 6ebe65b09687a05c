/-
  Contracts and plain facts for the laws on the whole program: the parts below say each what they are. No further condition.
-/
import Derived.Test.YtdgaflcnigljlaaGreatDoorS27
set_option linter.unusedSimpArgs false
/-
  Contracts of reference 17: is a catalogue small and well-formed? At all catalogues. No further condition.
-/
namespace Go.Proofs.YtdgaflcnigljlaaGreatDoor
open Go.RowKit Go.Proofs Go.Proofs.YtdgaflcnigljlaaGreatDoorW.PrintWords
set_option linter.unusedVariables false
structure RgB (w W : World) (C : Cat) (A1 : Option Addr) (n1 c1 : Nat) (A2 : Option Addr) (n2 c2 : Nat) : Prop where
  bel : Below w.heap.size w W
  box : Blk W w.heap.size #[.int .i64 C.free, .slice A1 n1 c1, .slice A2 n2 c2] 25
theorem RgB.new (w : World) (C : Cat) (A1 : Option Addr) (n1 c1 : Nat) (A2 : Option Addr) (n2 c2 : Nat) : RgB w (w.alloc (.cells #[.int .i64 C.free, .slice A1 n1 c1, .slice A2 n2 c2] 25)) C A1 n1 c1 A2 n2 c2 := ⟨(Below.refl _ _).alloc (Nat.le_refl _) _, Blk.new _ _ _⟩
theorem RgB.below {w W W2 : World} {C : Cat} {A1 A2 : Option Addr} {n1 c1 n2 c2 : Nat} (h : RgB w W C A1 n1 c1 A2 n2 c2) (hb : Below W.heap.size W W2) : RgB w W2 C A1 n1 c1 A2 n2 c2 := ⟨below_then h.bel h.bel.size hb, h.box.below hb⟩
def fewB (n1 n2 : Nat) : Bool := decide (n1 ≤ 8 ∧ n2 ≤ 30)
theorem few_c (C : Cat) (A1 : Option Addr) (n1 c1 : Nat) (A2 : Option Addr) (n2 c2 : Nat) (w : World) : Calls Tryz.prog 29 #[.agg #[.int .i64 C.free, .slice A1 n1 c1, .slice A2 n2 c2]] w fun e w' => e = .returned (.bool (fewB n1 n2)) ∧ Below w.heap.size w w' := by
  have HB := Lib.hid ((Below.refl w.heap.size w).alloc (Nat.le_refl _) (.cells #[.int .i64 C.free, .slice A1 n1 c1, .slice A2 n2 c2] 25))
  have FF := Lib.hid (fun b : Bool => show (b = true ↔ (n1 ≤ 8 ∧ n2 ≤ 30)) → Ending.returned (.bool b) = .returned (.bool (fewB n1 n2)) from fun h => ret_bool (by unfold fewB; rw [Bool.eq_iff_iff, h, decide_eq_true_iff]))
  go_enter Tryz.func29, Tryz.ntmps29
  go_wp2
  all_goals
    go_ret
    exact ⟨FF.out _ (by simp; omega), HB.out⟩
def RightP (C : Cat) : Prop := C.Good ∧ C.feas.length ≤ 30
set_option maxRecDepth 20000 in
set_option maxHeartbeats 1000000 in
theorem right_c (C : Cat) (A1 : Option Addr) (n1 c1 : Nat) (A2 : Option Addr) (n2 c2 : Nat) (w : World) (hI : Hid (CatIn w C A1 n1 c1 A2 n2 c2)) : Calls Tryz.prog 8 #[.agg #[.int .i64 C.free, .slice A1 n1 c1, .slice A2 n2 c2]] w fun e w' => e = .returned (.bool (pB (RightP C))) ∧ Below w.heap.size w w' := by
  have HR := Lib.hid (RgB.new w C A1 n1 c1 A2 n2 c2)
  by_cases hf : n1 ≤ 8 ∧ n2 ≤ 30
  · have F1 := Lib.hid (show fewB n1 n2 = true by unfold fewB; simpa using hf)
    have L1 := Lib.hid (show C.seas.length ≤ 8 by have := hI.out.e1; omega)
    have L2 := Lib.hid (show C.feas.length ≤ 31 by have := hI.out.e2; omega)
    have PP := Lib.hid (show pB C.Good = pB (RightP C) by
      rw [Bool.eq_iff_iff, pB_iff, pB_iff]
      exact ⟨fun h => ⟨h, by have := hI.out.e2; omega⟩, fun h => h.1⟩)
    clear hf
    go_enter Tryz.func8, Tryz.ntmps8
    go_wp2_with (first | (go_at_call 29; with_reducible refine (few_c C A1 n1 c1 A2 n2 c2 _).mono ?_; rintro e w1 ⟨rfl, hb1⟩; rw [F1.out]; replace HR := Lib.hid (HR.out.below hb1); clear hb1; obtain ⟨⟨x0, x1, x2⟩, _⟩ := HR.out.box.c3; have xl := HR.out.box.lt) | (go_at_call 24; with_reducible refine (rcheck_c C A1 n1 c1 A2 n2 c2 _ (Lib.hid (hI.out.below HR.out.bel)) L1 L2).mono ?_; rintro e w2 ⟨rfl, hb2⟩; rw [PP.out]; replace HR := Lib.hid (HR.out.below hb2); clear hb2))
    go_ret
    exact ⟨rfl, HR.out.bel⟩
  · have F1 := Lib.hid (show fewB n1 n2 = false by unfold fewB; simpa using hf)
    have PP := Lib.hid (show false = pB (RightP C) by
      rw [eq_comm]
      exact pB_f fun h => hf ⟨by have := h.1.n2; have := hI.out.e1; omega, by have := h.2; have := hI.out.e2; omega⟩)
    clear hf
    go_enter Tryz.func8, Tryz.ntmps8
    go_wp2_with ((go_at_call 29; with_reducible refine (few_c C A1 n1 c1 A2 n2 c2 _).mono ?_; rintro e w1 ⟨rfl, hb1⟩; rw [F1.out]; replace HR := Lib.hid (HR.out.below hb1); clear hb1; obtain ⟨⟨x0, x1, x2⟩, _⟩ := HR.out.box.c3; have xl := HR.out.box.lt))
    go_ret
    exact ⟨ret_bool PP.out, HR.out.bel⟩
end Go.Proofs.YtdgaflcnigljlaaGreatDoor
