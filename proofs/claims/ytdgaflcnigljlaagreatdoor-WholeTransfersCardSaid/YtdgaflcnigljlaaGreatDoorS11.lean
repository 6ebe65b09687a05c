/-
  Contracts and plain facts for the laws on the whole program: the parts below say each what they are. No further condition.
-/
import Derived.Test.YtdgaflcnigljlaaGreatDoorS06
import Derived.Test.YtdgaflcnigljlaaGreatDoorS10
/-
  Contracts of package season: the starts of the seasons, at well-formed small catalogues, years from 1583 to 1000000000, wherever catalogue and tables lie in memory.
-/
namespace Go.Proofs.YtdgaflcnigljlaaGreatDoor
open Go.RowKit Go.Proofs.YtdgaflcnigljlaaGreatDoorW.PrintWords
set_option linter.unusedVariables false
def vSt (C : Cat) (y : Int) : List Int := C.seas.map fun s => s.st.day y
theorem info3 : (Tryz.prog.info? 3).map (fun i => (i.zero, i.size, i.bytes)) = some (some (.int .i64 0), 1, 8) := by kernel_rfl
structure StBox (w W : World) (C : Cat) (A1 : Option Addr) (n1 c1 : Nat) (A2 : Option Addr) (n2 c2 : Nat) (v : Value) (xs : List Int) : Prop where
  bel : Below w.heap.size w W
  box : Blk W w.heap.size #[.int .i64 C.free, .slice A1 n1 c1, .slice A2 n2 c2] 25
  own : Own W (w.heap.size + 1) 3 1 v (intRows xs)
section
variable {w W W2 : World} {C : Cat} {A1 A2 : Option Addr} {n1 c1 n2 c2 : Nat} {v : Value} {xs : List Int}
theorem StBox.below (h : StBox w W C A1 n1 c1 A2 n2 c2 v xs) (hb : Below W.heap.size W W2) : StBox w W2 C A1 n1 c1 A2 n2 c2 v xs := ⟨below_then h.bel h.bel.size hb, h.box.below hb, h.own.below hb⟩
theorem StBox.alloc (h : StBox w W C A1 n1 c1 A2 n2 c2 v xs) (o : Obj) : StBox w (W.alloc o) C A1 n1 c1 A2 n2 c2 v xs := h.below ((Below.refl _ _).alloc (Nat.le_refl _) o)
theorem StBox.app (h : StBox w W C A1 n1 c1 A2 n2 c2 v xs) {v1 : Value} {x : Int} (ho : Own W2 (w.heap.size + 1) 3 1 v1 (intRows xs ++ [#[.int .i64 x]])) (hb : Below (w.heap.size + 1) W W2) : StBox w W2 C A1 n1 c1 A2 n2 c2 v1 (xs ++ [x]) :=
  ⟨h.bel.trans (hb.mono (Nat.le_succ _)), (hb.block _ (Nat.lt_succ_self _)).trans h.box, by rw [← intRows_snoc]; exact ho⟩
end
set_option maxRecDepth 20000 in
set_option maxHeartbeats 1000000 in
theorem starts_c (C : Cat) (A1 : Option Addr) (n1 c1 : Nat) (A2 : Option Addr) (n2 c2 : Nat) (y : Int) (w : World) (ht : Hid (Tabs w)) (hI : Hid (CatIn w C A1 n1 c1 A2 n2 c2)) (hG : Hid C.Good) (y1 : 1583 ≤ y) (y2 : y ≤ 1000000000) :
    Calls Tryz.prog 176 #[.agg #[.int .i64 C.free, .slice A1 n1 c1, .slice A2 n2 c2], .int .i64 y] w fun e w' => ∃ v, (e = .returned (.tuple #[v, .int .i64 0]) ∧ Own w' w.heap.size 3 1 v (intRows (vSt C y))) ∧ Below w.heap.size w w' := by
  have HK := Lib.hid (show StBox w (w.alloc (.cells #[.int .i64 C.free, .slice A1 n1 c1, .slice A2 n2 c2] 25)) C A1 n1 c1 A2 n2 c2 (.slice none 0 0) [] from ⟨(Below.refl _ _).alloc (Nat.le_refl _) _, Blk.new _ _ _, Own.nil _ _ _ _⟩)
  have g1 : 1 ≤ n1 := by have := hG.out.n1; have := hI.out.e1; omega
  have g2 : n1 ≤ 8 := by have := hG.out.n2; have := hI.out.e1; omega
  have b1 : decide (y < 1583) = false := by simpa using y1
  have b2 : decide (1000000000 < y) = false := by simpa using y2
  go_enter Tryz.func176, Tryz.ntmps176
  go_wp2_with (first | (go_at_call 88; with_reducible refine (check_ok C _ _ _ _ _ _ _ (Lib.hid (hI.out.below HK.out.bel)) hG).mono ?_; rintro e w1 ⟨rfl, hw⟩; replace HK := Lib.hid (HK.out.below hw); clear hw; obtain ⟨⟨x0, x1, x2⟩, x3⟩ := HK.out.box.c3; have blt := HK.out.box.lt))
  clear x0 x1 x2 x3 blt
  go_loopw [26, 7] (fun i o wr => ∃ (k : Int) (v : Value), 0 ≤ k ∧ k ≤ n1 ∧ i = .int .i64 k ∧ o = v ∧ Hid (StBox w wr C A1 n1 c1 A2 n2 c2 v ((vSt C y).take k.toNat))) (fun i _ _ => (n1 - intOf i).toNat)
  case atStart => exact ⟨0, _, by omega, by omega, rfl, rfl, HK⟩
  case round =>
    clear HK
    obtain ⟨k, v, k0, k1, rfl, rfl, HK⟩ := hrel
    by_cases hk : k < n1
    · obtain ⟨s, hs⟩ : ∃ s, C.seas[k.toNat]? = some s := ⟨_, List.getElem?_eq_getElem (by have := hI.out.e1; omega)⟩
      have hm : s ∈ C.seas := List.mem_of_getElem? hs
      have OK : Hid (AncOk s.st.k s.st.m s.st.d s.st.o s.st.wd s.st.c) := Lib.hid (hG.out.sea s hm).st
      have TK := Lib.hid (show (vSt C y).take k.toNat ++ [s.st.day y] = (vSt C y).take (k.toNat + 1) by rw [List.take_add_one]; simp [vSt, hs])
      have TL : ((vSt C y).take k.toNat).length ≤ 8 := by rw [List.length_take]; omega
      obtain ⟨ad, ha, hr⟩ := (hI.out.sea.below HK.out.bel) k.toNat s.cells (by rw [List.getElem?_map, hs]; rfl)
      obtain ⟨a0, a1, a2, a3, a4, a5, a6, a7, a8⟩ := RowIs.nine hr
      have plt := hr.lt rfl
      clear hr hm hs
      subst ha
      go_wp2_with (first | (go_at_call 129; with_reducible refine (day_c _ _ _ _ _ _ _ _ (Lib.hid (ht.out.below (HK.out.alloc _).bel)) y1 y2 OK.out).mono ?_; rintro e w1 ⟨rfl, hw⟩; replace HK := Lib.hid ((HK.out.alloc _).below hw); clear hw a0 a1 a2 a3 a4 a5 a6 a7 a8 plt) | (at_builtin; refine own_app (w0 := w1) 36 3 rfl _ _ rfl Tryz.underlying36 info3 rfl (by decide) (by decide) _ rfl #[_] rfl rfl (by simp [Value.oneCell']) HK.out.own (Below.refl _ _) (by have := HK.out.box.lt; omega) (by simp [intRows]; omega) ?_; intro v1 w2 ho hb hg hat; replace HK := Lib.hid (HK.out.app ho hb); clear ho hb hg hat))
      exact ⟨⟨k + 1, v1, by omega, by omega, by go_num, rfl, Lib.hid (by rw [show (k + 1).toNat = k.toNat + 1 by omega, ← TK.out]; exact HK.out)⟩, by simp [intOf]; omega⟩
    · have TK : Hid ((vSt C y).take k.toNat = vSt C y) := Lib.hid (List.take_of_length_le (by have := hI.out.e1; simp [vSt]; omega))
      go_wp2_with fail
      go_ret2
      exact ⟨⟨_, rfl, by have := HK.out.own; rw [TK.out] at this; exact this.less (Nat.le_succ _)⟩, HK.out.bel⟩
/-! the order of the seasons of a year: by day, the elder first -/
/-- Insert behind all that are not greater, from the end. -/
def insK (p : Int × Int) : List (Int × Int) → List (Int × Int)
  | [] => [p]
  | q :: l => if q.1 ≤ p.1 then q :: insK p l else p :: q :: l
end Go.Proofs.YtdgaflcnigljlaaGreatDoor
