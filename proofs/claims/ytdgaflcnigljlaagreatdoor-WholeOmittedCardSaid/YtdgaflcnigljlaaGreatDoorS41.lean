/-
  Contracts and plain facts for the laws on the whole program: the parts below say each what they are. No further condition.
-/
import Derived.Test.YtdgaflcnigljlaaGreatDoorS38
import Derived.Test.YtdgaflcnigljlaaGreatDoorS39
import Derived.Test.YtdgaflcnigljlaaGreatDoorS40
set_option linter.unusedSimpArgs false
/-
  The law on an omitted feast: what its function answers. At all catalogues, years and anchors; the tables lie in memory as the program text lays them. No further condition.
-/
namespace Go.Proofs.YtdgaflcnigljlaaGreatDoor
open Go.RowKit Go.Proofs Go.MapKept Go.Proofs.YtdgaflcnigljlaaGreatDoorW.PrintWords
set_option linter.unusedVariables false
theorem own_rows9 {w : World} {b e n c : Nat} {A : Option Addr} {rows : List (Array Value)} (h : Own w b e 9 (.slice A n c) rows) : Rows9 w A rows := fun k cs hk => by
  obtain ⟨g, cap, he, _, _, _, hc⟩ := h.cell hk
  have hs := h.2 cs (List.mem_of_getElem? hk)
  simp only [Value.slice.injEq] at he
  refine ⟨_, he.1, fun j v hv => ?_⟩
  have hj : j < 9 := by rw [← hs]; exact (Array.getElem?_eq_some_iff.1 hv).1
  rw [← hv, ← (hc j hj).1]
  congr 1
  unfold Addr.add
  by_cases k0 : k * 9 = 0
  · rw [if_pos k0]
    by_cases j0 : j = 0
    · rw [if_pos j0]; simp only [Addr.mk.injEq, true_and, and_true]; omega
    · rw [if_neg j0]; simp only [Addr.mk.injEq, true_and, and_true]; omega
  · rw [if_neg k0]
    by_cases j0 : j = 0
    · rw [if_pos j0]; simp only [Addr.mk.injEq, true_and, and_true]; omega
    · rw [if_neg j0]; simp only [Addr.mk.injEq, true_and, and_true]; omega
theorem own_cat_in {w : World} {b : Nat} {C : Cat} {A1 A2 : Option Addr} {n1 c1 n2 c2 : Nat} (h1 : Own w b 67 9 (.slice A1 n1 c1) (C.seas.map Sea.cells)) (h2 : Own w b 63 9 (.slice A2 n2 c2) (C.feas.map Fea.cells)) : CatIn w C A1 n1 c1 A2 n2 c2 := by
  obtain ⟨_, d1, e1, l1⟩ := h1.form
  obtain ⟨_, d2, e2, l2⟩ := h2.form
  simp only [Value.slice.injEq] at e1 e2
  exact ⟨by rw [e1.2.1, List.length_map], by rw [e2.2.1, List.length_map], by rw [e1.2.1, e1.2.2]; exact l1, by rw [e2.2.1, e2.2.2]; exact l2, own_rows9 h1, own_rows9 h2⟩
/-- The feast that the law appends. -/
def omF (t : AncT) : Fea := ⟨⟨#[122, 122, 45, 57]⟩, 9, 3, t⟩
structure OmB (w W : World) (C : Cat) (A1 : Option Addr) (n1 c1 : Nat) (A2 : Option Addr) (n2 c2 : Nat) (t : AncT) : Prop where
  bel : Below w.heap.size w W
  box : Blk W w.heap.size #[.int .i64 C.free, .slice A1 n1 c1, .slice A2 n2 c2] 25
  anc : Blk W (w.heap.size + 1) (aC t.k t.m t.d t.o t.wd t.c) 59
theorem OmB.new (w : World) (C : Cat) (A1 : Option Addr) (n1 c1 : Nat) (A2 : Option Addr) (n2 c2 : Nat) (t : AncT) : OmB w ((w.alloc (.cells #[.int .i64 C.free, .slice A1 n1 c1, .slice A2 n2 c2] 25)).alloc (.cells (aC t.k t.m t.d t.o t.wd t.c) 59)) C A1 n1 c1 A2 n2 c2 t := ⟨((Below.refl _ _).alloc (Nat.le_refl _) _).alloc (by simp) _, (Blk.new _ _ _).alloc _, Blk.new2 _ _ _ _⟩
theorem OmB.below {w W W2 : World} {C : Cat} {A1 : Option Addr} {n1 c1 : Nat} {A2 : Option Addr} {n2 c2 : Nat} {t : AncT} (h : OmB w W C A1 n1 c1 A2 n2 c2 t) (hb : Below W.heap.size W W2) : OmB w W2 C A1 n1 c1 A2 n2 c2 t := ⟨below_then h.bel h.bel.size hb, h.box.below hb, h.anc.below hb⟩
theorem omF_one (t : AncT) : ∀ u ∈ (omF t).cells.toList, u.oneCell' = true := fun u hu => fea_one [omF t] _ (List.mem_singleton.2 rfl) u hu
theorem om_mid {w W5 w6 : World} {b4 db n1 c1 n2 c2 m1 d1 m2 d2 m3 d3 : Nat} {C : Cat} {A1 A2 B1 B2 B3 : Option Addr} {t : AncT} (HR : OmB w W5 C A1 n1 c1 A2 n2 c2 t) (AL : w.heap.size + 1 < b4) (BD : b4 ≤ db) (HD : Blk W5 db #[.int .i64 C.free, .slice B1 m1 d1, .slice B2 m2 d2] 25)
    (O1 : Own W5 b4 67 9 (.slice B1 m1 d1) (C.seas.map Sea.cells)) (O2 : Own W5 b4 63 9 (.slice B2 m2 d2) (C.feas.map Fea.cells)) (ho : Own w6 b4 63 9 (.slice B3 m3 d3) (C.feas.map Fea.cells ++ [(omF t).cells])) (hb : Below b4 W5 w6) (hg : W5.grownBy w6 (Value.slice B2 m2 d2).ownBlock) :
    OmB w (w6.setCell ⟨db, 2, none⟩ (.slice B3 m3 d3)) C A1 n1 c1 A2 n2 c2 t ∧ Blk (w6.setCell ⟨db, 2, none⟩ (.slice B3 m3 d3)) db #[.int .i64 C.free, .slice B1 m1 d1, .slice B3 m3 d3] 25 ∧ CatIn (w6.setCell ⟨db, 2, none⟩ (.slice B3 m3 d3)) (C.snoc (omF t)) B1 m1 d1 B3 m3 d3 := by
  have D6 := Blk.grown HD hg (O2.ne_blk HD (by decide))
  have p1 := O1.kept hg (O1.apart_ty O2 (by decide))
  refine ⟨⟨(HR.bel.trans (hb.mono (by omega))).setCell (show w.heap.size ≤ db by omega) _, (HR.box.low hb (by omega)).far (show w.heap.size ≠ db by omega) _, (HR.anc.low hb AL).far (show w.heap.size + 1 ≠ db by omega) _⟩, D6.put 2 _ rfl, ?_⟩
  have q1 := p1.kept (gs_set w6 db 2 (.slice B3 m3 d3)) (.inr (p1.ne_blk D6 (by decide)))
  have q2 := ho.kept (gs_set w6 db 2 (.slice B3 m3 d3)) (.inr (ho.ne_blk D6 (by decide)))
  exact own_cat_in (C := C.snoc (omF t)) q1 (by unfold Cat.snoc; simpa using q2)
structure OmS (w W : World) (xb ge o : Nat) (row cs : Array Value) (L1 L3 L4 : List ByteArray) (u1 u2 u3 u4 : Value) : Prop where
  bel : Below w.heap.size w W
  xl : w.heap.size ≤ xb
  q : Blk W xb row 42
  r : ∀ i, i < 14 → W.cell? ⟨ge, o + i, none⟩ = cs[i]?
  gl : ge < w.heap.size
  o1 : Own W 0 9 1 u1 (strRows L1)
  o2 : Own W 0 9 1 u2 (strRows L1)
  o3 : Own W 0 9 1 u3 (strRows L3)
  o4 : Own W 0 9 1 u4 (strRows L4)
section
variable {w W W2 : World} {xb ge o : Nat} {row row' cs : Array Value} {L1 L3 L4 : List ByteArray} {u1 u2 u3 u4 : Value}
theorem OmS.below (h : OmS w W xb ge o row cs L1 L3 L4 u1 u2 u3 u4) (hb : Below W.heap.size W W2) : OmS w W2 xb ge o row cs L1 L3 L4 u1 u2 u3 u4 :=
  ⟨below_then h.bel h.bel.size hb, h.xl, h.q.below hb, fun i hi => (hb.cell (Nat.lt_of_lt_of_le h.gl h.bel.size)).trans (h.r i hi), h.gl, h.o1.below hb, h.o2.below hb, h.o3.below hb, h.o4.below hb⟩
theorem OmS.put (h : OmS w W xb ge o row cs L1 L3 L4 u1 u2 u3 u4) (i : Nat) (u : Value) (e : row.setIfInBounds i u = row') : OmS w (W.setCell ⟨xb, i, none⟩ u) xb ge o row' cs L1 L3 L4 u1 u2 u3 u4 := by
  have hx : ∀ {v : Value} {rows : List (Array Value)}, Own W 0 9 1 v rows → Own (W.setCell ⟨xb, i, none⟩ u) 0 9 1 v rows := fun o => o.kept (gs_set _ _ _ _) (.inr (o.ne_blk h.q (by decide)))
  refine ⟨h.bel.setCell h.xl u, h.xl, h.q.put i u e, fun j hj => ?_, h.gl, hx h.o1, hx h.o2, hx h.o3, hx h.o4⟩
  rw [← h.r j hj]
  exact cell_set_ne (by have := h.gl; have := h.xl; simp; omega)
theorem OmS.with3 (h : OmS w W xb ge o row cs L1 L3 L4 u1 u2 u3 u4) {L : List ByteArray} {u : Value} (ho : Own W 0 9 1 u (strRows L)) : OmS w W xb ge o row cs L1 L L4 u1 u2 u u4 := ⟨h.bel, h.xl, h.q, h.r, h.gl, h.o1, h.o2, ho, h.o4⟩
end
theorem zz_one : ∀ u ∈ (#[.string ⟨#[122, 122, 45, 57]⟩] : Array Value).toList, u.oneCell' = true := fun u hu => by
  simp only [List.mem_cons, List.not_mem_nil, or_false] at hu; subst hu; rfl
theorem zz_own {w : World} {b : Nat} {v : Value} {l l4 : List ByteArray} (h : Own w b 9 1 v (([] ++ strRows l) ++ [#[.string ⟨#[122, 122, 45, 57]⟩]])) (e : l4 = l ++ [⟨#[122, 122, 45, 57]⟩]) : Own w 0 9 1 v (strRows l4) := by
  rw [List.nil_append, ← strRows_snoc, ← e] at h
  exact h.less (Nat.zero_le _)
structure OmC (w W : World) (C : Cat) (A1 : Option Addr) (n1 c1 : Nat) (A2 : Option Addr) (n2 c2 : Nat) (t : AncT) (y : Int) (l : List Mv) (N kb kc : Nat) (en em : Value) (us um : List (Value × Value)) : Prop where
  bel : Below w.heap.size w W
  anc : Blk W (w.heap.size + 1) (aC t.k t.m t.d t.o t.wd t.c) 59
  kal : Blk W kb #[.int .i64 y, en] 31
  kam : Blk W kc #[.int .i64 y, em] 31
  en : EnRes W w.heap.size C y l N en us
  em : EnRes W w.heap.size (C.snoc (omF t)) y l N em um
theorem OmC.below {w W W2 : World} {C : Cat} {A1 : Option Addr} {n1 c1 : Nat} {A2 : Option Addr} {n2 c2 : Nat} {t : AncT} {y : Int} {l : List Mv} {N kb kc : Nat} {en em : Value} {us um : List (Value × Value)} (h : OmC w W C A1 n1 c1 A2 n2 c2 t y l N kb kc en em us um) (hb : Below W.heap.size W W2) : OmC w W2 C A1 n1 c1 A2 n2 c2 t y l N kb kc en em us um :=
  ⟨below_then h.bel h.bel.size hb, h.anc.below hb, h.kal.below hb, h.kam.below hb, h.en.below hb, h.em.below hb⟩
set_option maxRecDepth 20000 in
set_option maxHeartbeats 1000000 in
theorem omitted_w (C : Cat) (A1 : Option Addr) (n1 c1 : Nat) (A2 : Option Addr) (n2 c2 : Nat) (y : Int) (t : AncT) (w : World) (ht : Hid (Tabs w)) (hp : Hid (PowIn w)) (hI : Hid (CatIn w C A1 n1 c1 A2 n2 c2)) :
    Calls Tryz.prog 5 #[.agg #[.int .i64 C.free, .slice A1 n1 c1, .slice A2 n2 c2], .int .i64 y, .agg #[.int .i64 t.k, .int .i64 t.m, .int .i64 t.d, .int .i64 t.o, .int .i64 t.wd, .int .i64 t.c]] w fun e w' => e = .returned (.bool true) ∧ Below w.heap.size w w' := by
  have HR := Lib.hid (OmB.new w C A1 n1 c1 A2 n2 c2 t)
  have HB := Lib.hid HR.out.bel
  by_cases hr : RightP C
  rotate_left
  · have PR := Lib.hid (pB_f hr)
    have PY := Lib.hid (show vInG y = vInG y from rfl)
    have PA := Lib.hid (show pB (AncOk t.k t.m t.d t.o t.wd t.c) = pB (AncOk t.k t.m t.d t.o t.wd t.c) from rfl)
    clear hr
    go_enter Tryz.func5, Tryz.ntmps5
    go_wp2_with (first | (go_at_call 7; with_reducible refine (awake_c _ (Lib.hid (ht.out.below HB.out)) (Lib.hid (hp.out.below HB.out))).mono ?_; rintro e w1 ⟨rfl, hb1⟩; replace HR := Lib.hid (HR.out.below hb1); replace HB := Lib.hid HR.out.bel; clear hb1; (try clear x0 x1 x2 xl xz s0 s1 s2 s3 s4 s5 sl); obtain ⟨⟨x0, x1, x2⟩, xz⟩ := HR.out.box.c3; have xl := HR.out.box.lt; obtain ⟨⟨s0, s1, s2, s3, s4, s5⟩, sl⟩ := HR.out.anc.c6) | (go_at_call 8; with_reducible refine (right_c C A1 n1 c1 A2 n2 c2 _ (Lib.hid (hI.out.below HB.out))).mono ?_; rintro e w2 ⟨rfl, hb2⟩; rw [PR.out]; clear x0 x1 x2 xl xz s0 s1 s2 s3 s4 s5 sl; replace HR := Lib.hid (HR.out.below hb2); replace HB := Lib.hid HR.out.bel; clear hb2; obtain ⟨⟨s0, s1, s2, s3, s4, s5⟩, sl⟩ := HR.out.anc.c6; obtain ⟨⟨x0, x1, x2⟩, xz⟩ := HR.out.box.c3; have xl := HR.out.box.lt) | (go_at_call 9; with_reducible refine (ringreg_c y _).mono ?_; rintro e w3 ⟨rfl, rfl⟩; rw [PY.out]) | (go_at_call 22; with_reducible refine (rchk_c _ _ _ _ _ _ _).mono ?_; rintro e w4 ⟨rfl, hb4⟩; rw [PA.out]; replace HR := Lib.hid (HR.out.below hb4); replace HB := Lib.hid HR.out.bel; clear hb4 x0 x1 x2 xl xz s0 s1 s2 s3 s4 s5 sl))
    go_ret
    exact ⟨rfl, HB.out⟩
  cases hy : vInG y with
  | false =>
    have PR := Lib.hid (pB_t hr)
    have PY := Lib.hid hy
    have PA := Lib.hid (show pB (AncOk t.k t.m t.d t.o t.wd t.c) = pB (AncOk t.k t.m t.d t.o t.wd t.c) from rfl)
    clear hr hy
    go_enter Tryz.func5, Tryz.ntmps5
    go_wp2_with (first | (go_at_call 7; with_reducible refine (awake_c _ (Lib.hid (ht.out.below HB.out)) (Lib.hid (hp.out.below HB.out))).mono ?_; rintro e w1 ⟨rfl, hb1⟩; replace HR := Lib.hid (HR.out.below hb1); replace HB := Lib.hid HR.out.bel; clear hb1; (try clear x0 x1 x2 xl xz s0 s1 s2 s3 s4 s5 sl); obtain ⟨⟨x0, x1, x2⟩, xz⟩ := HR.out.box.c3; have xl := HR.out.box.lt; obtain ⟨⟨s0, s1, s2, s3, s4, s5⟩, sl⟩ := HR.out.anc.c6) | (go_at_call 8; with_reducible refine (right_c C A1 n1 c1 A2 n2 c2 _ (Lib.hid (hI.out.below HB.out))).mono ?_; rintro e w2 ⟨rfl, hb2⟩; rw [PR.out]; clear x0 x1 x2 xl xz s0 s1 s2 s3 s4 s5 sl; replace HR := Lib.hid (HR.out.below hb2); replace HB := Lib.hid HR.out.bel; clear hb2; obtain ⟨⟨s0, s1, s2, s3, s4, s5⟩, sl⟩ := HR.out.anc.c6; obtain ⟨⟨x0, x1, x2⟩, xz⟩ := HR.out.box.c3; have xl := HR.out.box.lt) | (go_at_call 9; with_reducible refine (ringreg_c y _).mono ?_; rintro e w3 ⟨rfl, rfl⟩; rw [PY.out]) | (go_at_call 22; with_reducible refine (rchk_c _ _ _ _ _ _ _).mono ?_; rintro e w4 ⟨rfl, hb4⟩; rw [PA.out]; replace HR := Lib.hid (HR.out.below hb4); replace HB := Lib.hid HR.out.bel; clear hb4 x0 x1 x2 xl xz s0 s1 s2 s3 s4 s5 sl))
    go_ret
    exact ⟨rfl, HB.out⟩
  | true =>
  by_cases ha : AncOk t.k t.m t.d t.o t.wd t.c
  rotate_left
  · have PR := Lib.hid (pB_t hr)
    have PY := Lib.hid hy
    have PA := Lib.hid (pB_f ha)
    clear hr hy ha
    go_enter Tryz.func5, Tryz.ntmps5
    go_wp2_with (first | (go_at_call 7; with_reducible refine (awake_c _ (Lib.hid (ht.out.below HB.out)) (Lib.hid (hp.out.below HB.out))).mono ?_; rintro e w1 ⟨rfl, hb1⟩; replace HR := Lib.hid (HR.out.below hb1); replace HB := Lib.hid HR.out.bel; clear hb1; (try clear x0 x1 x2 xl xz s0 s1 s2 s3 s4 s5 sl); obtain ⟨⟨x0, x1, x2⟩, xz⟩ := HR.out.box.c3; have xl := HR.out.box.lt; obtain ⟨⟨s0, s1, s2, s3, s4, s5⟩, sl⟩ := HR.out.anc.c6) | (go_at_call 8; with_reducible refine (right_c C A1 n1 c1 A2 n2 c2 _ (Lib.hid (hI.out.below HB.out))).mono ?_; rintro e w2 ⟨rfl, hb2⟩; rw [PR.out]; clear x0 x1 x2 xl xz s0 s1 s2 s3 s4 s5 sl; replace HR := Lib.hid (HR.out.below hb2); replace HB := Lib.hid HR.out.bel; clear hb2; obtain ⟨⟨s0, s1, s2, s3, s4, s5⟩, sl⟩ := HR.out.anc.c6; obtain ⟨⟨x0, x1, x2⟩, xz⟩ := HR.out.box.c3; have xl := HR.out.box.lt) | (go_at_call 9; with_reducible refine (ringreg_c y _).mono ?_; rintro e w3 ⟨rfl, rfl⟩; rw [PY.out]) | (go_at_call 22; with_reducible refine (rchk_c _ _ _ _ _ _ _).mono ?_; rintro e w4 ⟨rfl, hb4⟩; rw [PA.out]; replace HR := Lib.hid (HR.out.below hb4); replace HB := Lib.hid HR.out.bel; clear hb4 x0 x1 x2 xl xz s0 s1 s2 s3 s4 s5 sl))
    go_ret
    exact ⟨rfl, HB.out⟩
  have PR := Lib.hid (pB_t hr)
  have PY := Lib.hid hy
  have PA := Lib.hid (pB_t ha)
  have HG := Lib.hid hr.1
  have K30 := Lib.hid hr.2
  have TA := Lib.hid ha
  obtain ⟨ab1, ab2⟩ := anc_bd (show t.Ok from ha) (vInG_iff.1 hy).1 (vInG_iff.1 hy).2
  obtain ⟨at_, hat⟩ : ∃ at_ : Nat, t.day y = vFirst y + at_ := ⟨(t.day y - vFirst y).toNat, by omega⟩
  have DV := Lib.hid (show vAnc y t.k t.m t.d t.o t.wd t.c = vFirst y + at_ from hat)
  have AT := Lib.hid hat
  obtain ⟨vb1, vb2⟩ := vFirst_bd (y := y) (by have := (vInG_iff.1 hy).1; omega) (by have := (vInG_iff.1 hy).2; omega)
  have aN : at_ < vDays y := by have := vDays_next y; omega
  clear ab1 ab2 hat
  obtain ⟨y1, y2⟩ := vInG_iff.1 hy
  clear hr hy HB
  go_enter Tryz.func5, Tryz.ntmps5
  go_upto_region 3 with (first | (go_at_call 7; with_reducible refine (awake_c _ (Lib.hid (ht.out.below HR.out.bel)) (Lib.hid (hp.out.below HR.out.bel))).mono ?_; rintro e w1 ⟨rfl, hb1⟩; replace HR := Lib.hid (HR.out.below hb1); clear hb1; obtain ⟨⟨x0, x1, x2⟩, _⟩ := HR.out.box.c3; have xl := HR.out.box.lt) | (go_at_call 8; with_reducible refine (right_c C A1 n1 c1 A2 n2 c2 _ (Lib.hid (hI.out.below HR.out.bel))).mono ?_; rintro e w2 ⟨rfl, hb2⟩; rw [PR.out]; clear x0 x1 x2 xl; replace HR := Lib.hid (HR.out.below hb2); clear hb2; obtain ⟨⟨s0, s1, s2, s3, s4, s5⟩, sl⟩ := HR.out.anc.c6) | (go_at_call 9; with_reducible refine (ringreg_c _ _).mono ?_; rintro e w3 ⟨rfl, rfl⟩; rw [PY.out]) | (go_at_call 22; with_reducible refine (rchk_c _ _ _ _ _ _ _).mono ?_; rintro e w4 ⟨rfl, hb4⟩; rw [PA.out]; replace HR := Lib.hid (HR.out.below hb4); clear hb4 s0 s1 s2 s3 s4 s5 sl))
  obtain ⟨⟨x0, x1, x2⟩, _⟩ := HR.out.box.c3
  have xl := HR.out.box.lt
  have k8 := Lib.hid HG.out.n2
  have k31 := Lib.hid (show C.feas.length ≤ 31 by have := K30.out; omega)
  go_upto_region 4 with (first | (go_at_call 23; with_reducible refine (rcopy_c C A1 n1 c1 A2 n2 c2 _ (Lib.hid (hI.out.below HR.out.bel)) k8 k31).mono ?_; rintro e w5 ⟨B1, m1, d1, B2, m2, d2, rfl, o1, o2, hb5⟩; have AL := Lib.hid HR.out.anc.lt; have HR5 := Lib.hid (HR.out.below hb5); have O1 := Lib.hid (o1.alloc (.cells #[.int .i64 C.free, .slice B1 m1 d1, .slice B2 m2 d2] 25)); have O2 := Lib.hid (o2.alloc (.cells #[.int .i64 C.free, .slice B1 m1 d1, .slice B2 m2 d2] 25)); have HD := Lib.hid (Blk.new w5 #[.int .i64 C.free, .slice B1 m1 d1, .slice B2 m2 d2] 25); replace HR := Lib.hid (HR5.out.below ((Below.refl _ _).alloc (Nat.le_refl _) (.cells #[.int .i64 C.free, .slice B1 m1 d1, .slice B2 m2 d2] 25))); have BS := Lib.hid (Nat.le_trans hb5.size ((Below.refl w5.heap.size w5).alloc (Nat.le_refl _) (.cells #[.int .i64 C.free, .slice B1 m1 d1, .slice B2 m2 d2] 25)).size); have BD := Lib.hid hb5.size; clear o1 o2 x0 x1 x2 xl))
  obtain ⟨db, hdb⟩ : ∃ k, w5.heap.size = k := ⟨_, rfl⟩
  rw [hdb] at HD BD ⊢
  clear hdb HR5 hb5
  generalize w5.alloc (.cells #[.int .i64 C.free, .slice B1 m1 d1, .slice B2 m2 d2] 25) = W5 at *
  generalize w4.heap.size = b4 at BS O1 O2 AL BD
  obtain ⟨⟨z0, z1, z2⟩, zf0, zf1, zf2⟩ := HD.out.c3
  have zl := HD.out.lt
  obtain ⟨⟨s0, s1, s2, s3, s4, s5⟩, sl⟩ := HR.out.anc.c6
  go_cut [] (fun wy => ∃ B3 m3 d3, Hid (OmB w wy C A1 n1 c1 A2 n2 c2 t) ∧ Hid (Blk wy db #[.int .i64 C.free, .slice B1 m1 d1, .slice B3 m3 d3] 25) ∧ Hid (CatIn wy (C.snoc (omF t)) B1 m1 d1 B3 m3 d3))
  case first =>
    go_wp2_with (at_builtin; refine own_app (w0 := W5) 23 63 rfl _ _ rfl Tryz.underlying23 info63c rfl (by decide) (by decide) (.slice B2 m2 d2) rfl (omF t).cells rfl rfl (omF_one t) O2.out (Below.refl _ _) BS.out (by have := K30.out; simp; omega) ?_; intro v1 w6 ho hb2 hg hat; obtain ⟨B3, m3, d3, rfl⟩ := ho.named; have D6 := Lib.hid (Blk.grown HD.out hg (O2.out.ne_blk HD.out (by decide))); have q2 := D6.out.cell 2; have f2 := D6.out.frozen 2; have l2 := D6.out.lt; have OM := Lib.hid (om_mid HR.out AL.out BD.out HD.out O1.out O2.out ho hb2 hg); clear ho hb2 hg hat)
    go_meet
    exact ⟨B3, m3, d3, Lib.hid OM.out.1, Lib.hid OM.out.2.1, Lib.hid OM.out.2.2⟩
  case rest =>
  clear HD O1 O2 z0 z1 z2 zf0 zf1 zf2 zl s0 s1 s2 s3 s4 s5 sl HR BS AL BD
  obtain ⟨B3, m3, d3, HR, HD, HI2⟩ := hcut
  go_upto_region 5 with fail
  obtain ⟨⟨z0, z1, z2⟩, _⟩ := HD.out.c3
  have zl := HD.out.lt
  have L8 := Lib.hid (show (C.snoc (omF t)).seas.length ≤ 8 from k8.out)
  have L31 := Lib.hid (show (C.snoc (omF t)).feas.length ≤ 31 by have := K30.out; unfold Cat.snoc; simp; omega)
  have rc2 : ∀ W, Hid (CatIn W (C.snoc (omF t)) B1 m1 d1 B3 m3 d3) → Calls Tryz.prog 24 #[.agg #[.int .i64 C.free, .slice B1 m1 d1, .slice B3 m3 d3]] W fun e w' => e = .returned (.bool (pB (C.snoc (omF t)).Good)) ∧ Below W.heap.size W w' := fun W h => rcheck_c (C.snoc (omF t)) B1 m1 d1 B3 m3 d3 W h L8 L31
  by_cases hs : (C.snoc (omF t)).Good
  rotate_left
  · have PS := Lib.hid (pB_f hs)
    clear hs
    go_wp2_with ((go_at_call 24; with_reducible refine (rc2 _ HI2).mono ?_; rintro e w6 ⟨rfl, hb6⟩; rw [PS.out]; replace HR := Lib.hid (HR.out.below hb6); clear hb6))
    go_ret
    exact ⟨rfl, HR.out.bel⟩
  have PS := Lib.hid (pB_t hs)
  have HG2 := Lib.hid hs
  clear hs
  have MV := Lib.hid (omt_moves (y := y) (Omt.mk HG.out rfl rfl : Omt C (omF t)))
  go_upto_region 7 with ((go_at_call 24; with_reducible refine (rc2 _ HI2).mono ?_; rintro e w6 ⟨rfl, hb6⟩; rw [PS.out]; replace HR := Lib.hid (HR.out.below hb6); replace HD := Lib.hid (HD.out.below hb6); replace HI2 := Lib.hid (HI2.out.below hb6); clear hb6 z0 z1 z2 zl))
  have bc2 : ∀ W, Hid (Tabs W) → Hid (CatIn W (C.snoc (omF t)) B1 m1 d1 B3 m3 d3) → Calls Tryz.prog 10 #[.agg #[.int .i64 C.free, .slice B1 m1 d1, .slice B3 m3 d3], .int .i64 y] W fun e w' => ((vMoves (C.snoc (omF t)) y = none ∧ e = .returned (.tuple #[.agg #[.int .i64 0, .slice none 0 0], .int .i64 5])) ∨ ∃ l en us, vMoves (C.snoc (omF t)) y = some l ∧ e = .returned (.tuple #[.agg #[.int .i64 y, en], .int .i64 0]) ∧ EnRes w' W.heap.size (C.snoc (omF t)) y l (vDays y) en us) ∧ Below W.heap.size W w' := fun W h1 h2 => build_c (C.snoc (omF t)) B1 m1 d1 B3 m3 d3 y W h1 h2 HG2 y1 y2
  clear L8 L31 rc2 PS PR PY PA
  obtain ⟨⟨x0, x1, x2⟩, _⟩ := HR.out.box.c3
  have xl := HR.out.box.lt
  go_wp2_with fail
  refine (build_c C A1 n1 c1 A2 n2 c2 y _ (Lib.hid (ht.out.below HR.out.bel)) (Lib.hid (hI.out.below HR.out.bel)) HG y1 y2).mono ?_
  rintro e w3 ⟨(⟨h1, rfl⟩ | ⟨l, en, us, h1, rfl, h3⟩), hb3⟩
  · have HM := Lib.hid h1
    replace HR := Lib.hid ((HR.out.below hb3).below ((Below.refl _ _).alloc (Nat.le_refl _) (.cells #[.int .i64 0, .slice none 0 0] 31)))
    replace HD := Lib.hid ((HD.out.below hb3).alloc (.cells #[.int .i64 0, .slice none 0 0] 31))
    replace HI2 := Lib.hid ((HI2.out.below hb3).below ((Below.refl _ _).alloc (Nat.le_refl _) (.cells #[.int .i64 0, .slice none 0 0] 31)))
    have HK3 := Lib.hid (Blk.new w3 #[.int .i64 0, .slice none 0 0] 31)
    clear hb3 h1 x0 x1 x2 xl
    go_upto_region 8 with fail
    obtain ⟨kb, hkb⟩ : ∃ k, w3.heap.size = k := ⟨_, rfl⟩
    rw [hkb] at HK3 ⊢
    clear hkb
    generalize w3.alloc (.cells #[.int .i64 0, .slice none 0 0] 31) = W3 at *
    obtain ⟨⟨z0, z1, z2⟩, _⟩ := HD.out.c3
    have zl := HD.out.lt
    go_wp2_with fail
    refine (bc2 _ (Lib.hid (ht.out.below HR.out.bel)) HI2).mono ?_
    rintro e w4 ⟨(⟨h1, rfl⟩ | ⟨l, en, us, h1, rfl, h3⟩), hb4⟩
    rotate_left
    · exfalso; rw [MV.out, HM.out] at h1; cases h1
    have HS4 := Lib.hid ((HR.out.below hb4).below ((Below.refl _ _).alloc (Nat.le_refl _) (.cells #[.int .i64 0, .slice none 0 0] 31)))
    have HK4 := Lib.hid ((HK3.out.below hb4).alloc (.cells #[.int .i64 0, .slice none 0 0] 31))
    have HL4 := Lib.hid (Blk.new w4 #[.int .i64 0, .slice none 0 0] 31)
    clear hb4 h1 z0 z1 z2 zl HK3 HR HD HI2
    go_upto_region 9 with fail
    obtain ⟨kc, hkc⟩ : ∃ k, w4.heap.size = k := ⟨_, rfl⟩
    rw [hkc] at HL4 ⊢
    clear hkc
    generalize w4.alloc (.cells #[.int .i64 0, .slice none 0 0] 31) = W4 at *
    obtain ⟨⟨f0, f1⟩, _⟩ := HK4.out.c2
    have fl := HK4.out.lt
    obtain ⟨⟨e0, e1⟩, _⟩ := HL4.out.c2
    have el := HL4.out.lt
    obtain ⟨⟨s0, s1, s2, s3, s4, s5⟩, sl⟩ := HS4.out.anc.c6
    have a366 : at_ < 367 := by have := vDays_in y; omega
    go_wp2_with (first | (go_at_call 25; with_reducible refine (raday_c y _ _ _ _ _ _ _ y1 y2 TA.out).mono ?_; rintro e w5 ⟨rfl, hb5⟩; rw [DV.out]; replace HS4 := Lib.hid (HS4.out.below hb5); replace HK4 := Lib.hid (HK4.out.below hb5); clear hb5 f0 f1 fl s0 s1 s2 s3 s4 s5 sl e0 e1 el; obtain ⟨⟨f0, f1⟩, _⟩ := HK4.out.c2; have fl := HK4.out.lt) | (go_at_call 11; with_reducible refine (rfirst_c _ _ (by omega) (by omega)).mono ?_; rintro e w6 ⟨rfl, rfl⟩))
    rw [show vFirst y + (at_ : Int) - vFirst y = at_ by omega]
    go_loopw [13] (fun j wr => j = .int .i64 0 ∧ w5 = wr) (fun j _ => 0)
    case atStart => exact ⟨rfl, rfl⟩
    case round =>
      obtain ⟨rfl, rfl⟩ := hrel
      go_wp2_with fail
      go_ret
      exact ⟨rfl, HS4.out.bel⟩
  · have HM := Lib.hid h1
    obtain ⟨ge, ce, rfl⟩ := h3.named2 (by have := vDays_in y; omega)
    have HE3 := Lib.hid ((h3.less HR.out.bel.size).below ((Below.refl _ _).alloc (Nat.le_refl _) (.cells #[.int .i64 y, .slice (some ⟨ge, 0, none⟩) (vDays y) ce] 31)))
    replace HR := Lib.hid ((HR.out.below hb3).below ((Below.refl _ _).alloc (Nat.le_refl _) (.cells #[.int .i64 y, .slice (some ⟨ge, 0, none⟩) (vDays y) ce] 31)))
    replace HD := Lib.hid ((HD.out.below hb3).alloc (.cells #[.int .i64 y, .slice (some ⟨ge, 0, none⟩) (vDays y) ce] 31))
    replace HI2 := Lib.hid ((HI2.out.below hb3).below ((Below.refl _ _).alloc (Nat.le_refl _) (.cells #[.int .i64 y, .slice (some ⟨ge, 0, none⟩) (vDays y) ce] 31)))
    have HK3 := Lib.hid (Blk.new w3 #[.int .i64 y, .slice (some ⟨ge, 0, none⟩) (vDays y) ce] 31)
    clear hb3 h1 h3 x0 x1 x2 xl
    go_upto_region 8 with fail
    obtain ⟨kb, hkb⟩ : ∃ k, w3.heap.size = k := ⟨_, rfl⟩
    rw [hkb] at HK3 ⊢
    clear hkb
    generalize w3.alloc (.cells #[.int .i64 y, .slice (some ⟨ge, 0, none⟩) (vDays y) ce] 31) = W3 at *
    obtain ⟨⟨z0, z1, z2⟩, _⟩ := HD.out.c3
    have zl := HD.out.lt
    go_wp2_with fail
    refine (bc2 _ (Lib.hid (ht.out.below HR.out.bel)) HI2).mono ?_
    rintro e w4 ⟨(⟨h1, rfl⟩ | ⟨l2, en, um, h1, rfl, h3⟩), hb4⟩
    · exfalso; rw [MV.out, HM.out] at h1; cases h1
    obtain rfl : l = l2 := by rw [MV.out, HM.out] at h1; exact Option.some.inj h1
    clear h1
    obtain ⟨gf, cf, rfl⟩ := h3.named2 (by have := vDays_in y; omega)
    have HX := Lib.hid (show OmC w (w4.alloc (.cells #[.int .i64 y, .slice (some ⟨gf, 0, none⟩) (vDays y) cf] 31)) C A1 n1 c1 A2 n2 c2 t y l (vDays y) kb w4.heap.size _ _ us um from OmC.mk ((HR.out.below hb4).below ((Below.refl _ _).alloc (Nat.le_refl _) _)).bel ((HR.out.below hb4).below ((Below.refl _ _).alloc (Nat.le_refl _) _)).anc ((HK3.out.below hb4).alloc _) (Blk.new w4 #[.int .i64 y, .slice (some ⟨gf, 0, none⟩) (vDays y) cf] 31) ((HE3.out.below hb4).below ((Below.refl _ _).alloc (Nat.le_refl _) _)) ((h3.less HR.out.bel.size).below ((Below.refl _ _).alloc (Nat.le_refl _) _)))
    clear hb4 h3 z0 z1 z2 zl HK3 HR HD HI2 HE3
    go_upto_region 9 with fail
    obtain ⟨kc, hkc⟩ : ∃ k, w4.heap.size = k := ⟨_, rfl⟩
    rw [hkc] at HX ⊢
    clear hkc
    generalize w4.alloc (.cells #[.int .i64 y, .slice (some ⟨gf, 0, none⟩) (vDays y) cf] 31) = W4 at *
    have OT : Hid (Omt C (omF t)) := Lib.hid ⟨HG.out, rfl, rfl⟩
    have OE := Lib.hid (fun k => omt_en (y := y) OT.out HM.out k)
    have OI := Lib.hid (fun k => omt_com (y := y) OT.out HM.out k)
    obtain ⟨N1, N2⟩ := vDays_in y
    clear HM MV bc2 K30 k8 k31 HG2
    have HN := Lib.hid (show vDays y = vDays y from rfl)
    generalize hN : vDays y = N at HX N1 N2 aN ⊢
    replace HN := Lib.hid hN
    clear hN
    obtain ⟨⟨f0, f1⟩, _⟩ := HX.out.kal.c2
    have fl := HX.out.kal.lt
    obtain ⟨⟨e0, e1⟩, _⟩ := HX.out.kam.c2
    have el := HX.out.kam.lt
    obtain ⟨⟨s0, s1, s2, s3, s4, s5⟩, sl⟩ := HX.out.anc.c6
    go_wp2_with (first | (go_at_call 25; with_reducible refine (raday_c y _ _ _ _ _ _ _ y1 y2 TA.out).mono ?_; rintro e w5 ⟨rfl, hb5⟩; rw [DV.out]; replace HX := Lib.hid (HX.out.below hb5); clear hb5 f0 f1 fl s0 s1 s2 s3 s4 s5 sl e0 e1 el) | (go_at_call 11; with_reducible refine (rfirst_c _ _ (by omega) (by omega)).mono ?_; rintro e w6 ⟨rfl, rfl⟩))
    rw [show vFirst y + (at_ : Int) - vFirst y = at_ by omega]
    go_loopw [13] (fun j wr => ∃ k : Nat, k ≤ N ∧ j = .int .i64 k ∧ Hid (OmC w wr C A1 n1 c1 A2 n2 c2 t y l N kb kc (.slice (some ⟨ge, 0, none⟩) N ce) (.slice (some ⟨gf, 0, none⟩) N cf) us um)) (fun j _ => (N - intOf j).toNat)
    case atStart => exact ⟨0, by omega, rfl, HX⟩
    case round =>
      clear HX
      obtain ⟨k, k1, rfl, HX⟩ := hrel
      obtain ⟨⟨f0, f1⟩, _⟩ := HX.out.kal.c2
      have fl := HX.out.kal.lt
      by_cases hk : k < N
      · have hk' : (k : Int) < N := by omega
        obtain ⟨a, n, c, a', n', c', HT1, gl1, R1⟩ := HX.out.en.row (j := k) hk
        obtain ⟨b, m, d, b', m', d', HT2, gl2, R2⟩ := HX.out.em.row (j := k) hk
        obtain ⟨l1, l2⟩ := HT1.len
        obtain ⟨l3, l4⟩ := HT2.len
        have EO := en_ok HG.out y l k
        have EN := OE.out k
        obtain ⟨oc, oo⟩ := OI.out k
        have B1' : n ≤ 1000 := by have := EO.2.2.1; rw [l1, vIds, List.length_map]; omega
        have B2' : n' ≤ 100 := by have := EO.2.2.2; rw [l2, vIds, List.length_map]; omega
        have ek := congrArg EntI.kind EN
        have ep := congrArg EntI.prin EN
        have er := congrArg EntI.rank EN
        have ey := congrArg EntI.fy EN
        have em := congrArg EntI.fm EN
        have ed := congrArg EntI.fd EN
        simp only [] at ek ep er ey em ed
        have O3 := HT2.oc
        have O4 := HT2.oo
        rw [oc] at O3 l3
        have se : vSea (C.snoc (omF t)) y (vFirst y + k) = vSea C y (vFirst y + k) := rfl
        have sw : vWeek (C.snoc (omF t)) y (vFirst y + k) = vWeek C y (vFirst y + k) := rfl
        rw [se, sw, ek, ep, er, ey, em, ed] at R2
        obtain rfl : m = n := by rw [l1, l3]
        have O1 := HT1.oc
        have O2 := HT1.oo
        have L1 := Lib.hid l1
        have L2 := Lib.hid l2
        have L4 := Lib.hid l4
        have OO := Lib.hid oo
        clear ek ep er ey em ed se sw l1 l2 l3 l4 oo oc EN EO HT1 HT2
        generalize vYear (vFirst y + k) = X0 at *
        generalize mMon (vFirst y + k) = X1 at *
        generalize mDay (vFirst y + k) = X2 at *
        generalize (vFirst y + k) % 7 = X3 at *
        generalize (vSea C y (vFirst y + k)).id = X4 at *
        generalize vWeek C y (vFirst y + k) = X5 at *
        generalize vIds (C.snoc (omF t)) (vEnI (C.snoc (omF t)) y l k).omi = I4 at OO L4 O4
        generalize vEnI C y l k = E at OO L1 L2 O1 O2 O3 R1 R2
        generalize vIds C E.com = I1 at *
        generalize vIds C E.omi = I2 at *
        have HQ := Lib.hid (OmS.mk (w := wr) (W := wr.alloc (.cells (eR X0 X1 X2 X3 X4 X5 E.kind E.prin E.rank E.fy E.fm E.fd (.slice a m c) (.slice a' n' c')) 42)) (xb := wr.heap.size) (ge := gf) (o := k * 14) (row := eR X0 X1 X2 X3 X4 X5 E.kind E.prin E.rank E.fy E.fm E.fd (.slice a m c) (.slice a' n' c')) (cs := eR X0 X1 X2 X3 X4 X5 E.kind E.prin E.rank E.fy E.fm E.fd (.slice b m d) (.slice b' m' d')) ((Below.refl _ _).alloc (Nat.le_refl _) _) (Nat.le_refl _) (Blk.new _ _ _) (fun i hi => by
          rw [((Below.refl wr.heap.size wr).alloc (Nat.le_refl _) _).cell gl2]
          rcases (show i = 0 ∨ i = 1 ∨ i = 2 ∨ i = 3 ∨ i = 4 ∨ i = 5 ∨ i = 6 ∨ i = 7 ∨ i = 8 ∨ i = 9 ∨ i = 10 ∨ i = 11 ∨ i = 12 ∨ i = 13 by omega) with rfl | rfl | rfl | rfl | rfl | rfl | rfl | rfl | rfl | rfl | rfl | rfl | rfl | rfl
          · exact R2.r0
          · exact R2.r1
          · exact R2.r2
          · exact R2.r3
          · exact R2.r4
          · exact R2.r5
          · exact R2.r6
          · exact R2.r7
          · exact R2.r8
          · exact R2.r9
          · exact R2.r10
          · exact R2.r11
          · exact R2.r12
          · exact R2.r13) gl2 ((O1.alloc _).less (Nat.zero_le _)) ((O3.alloc _).less (Nat.zero_le _)) ((O2.alloc _).less (Nat.zero_le _)) ((O4.alloc _).less (Nat.zero_le _)))
        clear O1 O2 O3 O4 R2
        obtain ⟨r0, r1, r2, r3, r4, r5, r6, r7, r8, r9, r10, r11, r12, r13⟩ := R1
        go_upto_region 16 with fail
        clear r0 r1 r2 r3 r4 r5 r6 r7 r8 r9 r10 r11 r12 r13 f0 f1 fl
        generalize hxb : wr.heap.size = xb at HQ ⊢
        generalize wr.alloc (.cells (eR X0 X1 X2 X3 X4 X5 E.kind E.prin E.rank E.fy E.fm E.fd (.slice a m c) (.slice a' n' c')) 42) = W6 at *
        have B3' : I4.length ≤ 1000 := by rw [OO.out, List.length_append, ← L2.out]; split <;> simp <;> omega
        have B4' : m' ≤ 1000 := by rw [L4.out]; exact B3'
        go_cut [89] (fun v wy => v = .bool ((k : Int) == (at_ : Int)) ∧ W6 = wy)
        case first =>
          go_wp2_with fail
          go_meet
          exact ⟨rfl, rfl⟩
        case rest =>
        obtain ⟨rfl, rfl⟩ := hcut
        go_step
        go_cut [] (fun wz => ∃ q j', Hid (OmS wr wz xb gf (k * 14) (eR X0 X1 X2 X3 X4 X5 E.kind E.prin E.rank E.fy E.fm E.fd (.slice a m c) (.slice q m' j')) (eR X0 X1 X2 X3 X4 X5 E.kind E.prin E.rank E.fy E.fm E.fd (.slice b m d) (.slice b' m' d')) I1 I4 I4 (.slice a m c) (.slice b m d) (.slice q m' j') (.slice b' m' d')))
        case first =>
          by_cases hka : k = at_
          · have eb : ((k : Int) == (at_ : Int)) = true := by rw [hka]; simp
            have J4 := Lib.hid (show I4 = I2 ++ [⟨#[122, 122, 45, 57]⟩] by rw [OO.out, if_pos (by show t.day y = _; rw [AT.out, hka])]; rfl)
            clear hka
            have r13 : W6.cell? ⟨xb, 13, none⟩ = some (.slice a' n' c') := HQ.out.q.cell 13
            have rl := HQ.out.q.lt
            have K1' : ((0 : Nat) + (strRows I2).length) * 16 ≤ 140737488355328 := by unfold strRows; rw [List.length_map, ← L2.out]; omega
            have K2' : ((([] ++ strRows I2 : List (Array Value))).length + 1) * 16 ≤ 140737488355328 := by rw [List.nil_append]; unfold strRows; rw [List.length_map, ← L2.out]; omega
            have L0 := Lib.hid (Own.lit0 W6 9 1)
            go_wp2_with (first
              | (at_builtin; refine own_cat 40 9 rfl (.tmp 90) (.tmp 92) rfl Tryz.underlying40 info9 rfl (by decide) (by decide) (.slice (some ⟨W6.heap.size, 0, none⟩) 0 0) rfl (.slice a' n' c') (strRows I2) rfl (str_one _) L0.out (HQ.out.o3.alloc _) (by simp) K1' ?_; intro v1 w7 ho hg _; have HB7 := Lib.hid (((Below.refl W6.heap.size W6).alloc (Nat.le_refl _) (.cells #[] 9)).grown hg (by simp) (fun k e => by cases e; exact Nat.le_refl _)); obtain ⟨p7, m7, j7, rfl⟩ := ho.named; have H7 := Lib.hid ho; clear ho hg r13 rl)
              | (at_builtin; refine own_app (w0 := W6) 40 9 rfl (.tmp 93) (.tmp 94) rfl Tryz.underlying40 info9 rfl (by decide) (by decide) (.slice p7 m7 j7) rfl #[.string ⟨#[122, 122, 45, 57]⟩] rfl rfl (zz_one) H7.out HB7.out HB7.out.size K2' ?_; intro v2 w8 ho hb2 hg hat; obtain ⟨p8, m8, j8, rfl⟩ := ho.named; have HS8 := Lib.hid (HQ.out.below hb2); have H8 := Lib.hid (zz_own ho J4.out); have r13 := HS8.out.q.cell 13; have f13 := HS8.out.q.frozen 13; have rl := HS8.out.q.lt; clear ho hb2 hg hat))
            go_meet
            have e8 : m8 = m' := by rw [L4.out]; have := slice_len H8.out; rw [this, strRows, List.length_map]
            subst e8
            exact ⟨p8, j8, Lib.hid ((HS8.out.with3 H8.out).put 13 (.slice p8 m8 j8) rfl)⟩
          · have eb : ((k : Int) == (at_ : Int)) = false := by rw [beq_eq_false_iff_ne]; omega
            have J4 : I4 = I2 := by rw [OO.out, if_neg (by show ¬ t.day y = _; rw [AT.out]; omega), List.append_nil]
            clear hka
            subst J4
            obtain rfl : m' = n' := by rw [L2.out, L4.out]
            go_wp2_with fail
            go_meet
            exact ⟨_, _, HQ⟩
        case rest =>
        clear HQ
        obtain ⟨q, j', HQ⟩ := hcut
        go_upto_region 18 with fail
        obtain ⟨⟨r0, r1, r2, r3, r4, r5, r6, r7, r8, r9, r10, r11, r12, r13⟩, rl⟩ := HQ.out.q.c14
        have HX2 := Lib.hid (HX.out.below HQ.out.bel)
        clear HX
        obtain ⟨⟨e0, e1⟩, _⟩ := HX2.out.kam.c2
        have el := HX2.out.kam.lt
        have q0 : World.cell? _ ⟨gf, k * 14, none⟩ = some (Value.int .i64 X0) := HQ.out.r 0 (by decide)
        have q1 : World.cell? _ ⟨gf, k * 14 + 1, none⟩ = some (.int .i64 X1) := HQ.out.r 1 (by decide)
        have q2 : World.cell? _ ⟨gf, k * 14 + 2, none⟩ = some (.int .i64 X2) := HQ.out.r 2 (by decide)
        have q3 : World.cell? _ ⟨gf, k * 14 + 3, none⟩ = some (.int .i64 X3) := HQ.out.r 3 (by decide)
        have q4 : World.cell? _ ⟨gf, k * 14 + 4, none⟩ = some (.string X4) := HQ.out.r 4 (by decide)
        have q5 : World.cell? _ ⟨gf, k * 14 + 5, none⟩ = some (.int .i64 X5) := HQ.out.r 5 (by decide)
        have q6 : World.cell? _ ⟨gf, k * 14 + 6, none⟩ = some (.int .i64 E.kind) := HQ.out.r 6 (by decide)
        have q7 : World.cell? _ ⟨gf, k * 14 + 7, none⟩ = some (.string E.prin) := HQ.out.r 7 (by decide)
        have q8 : World.cell? _ ⟨gf, k * 14 + 8, none⟩ = some (.int .i64 E.rank) := HQ.out.r 8 (by decide)
        have q9 : World.cell? _ ⟨gf, k * 14 + 9, none⟩ = some (.int .i64 E.fy) := HQ.out.r 9 (by decide)
        have q10 : World.cell? _ ⟨gf, k * 14 + 10, none⟩ = some (.int .i64 E.fm) := HQ.out.r 10 (by decide)
        have q11 : World.cell? _ ⟨gf, k * 14 + 11, none⟩ = some (.int .i64 E.fd) := HQ.out.r 11 (by decide)
        have q12 : World.cell? _ ⟨gf, k * 14 + 12, none⟩ = some (.slice b m d) := HQ.out.r 12 (by decide)
        have q13 : World.cell? _ ⟨gf, k * 14 + 13, none⟩ = some (.slice b' m' d') := HQ.out.r 13 (by decide)
        have ql := Nat.lt_of_lt_of_le HQ.out.gl HQ.out.bel.size
        go_cut [104] (fun v wv => v = .bool false ∧ Hid (OmC w wv C A1 n1 c1 A2 n2 c2 t y l N kb kc (.slice (some ⟨ge, 0, none⟩) N ce) (.slice (some ⟨gf, 0, none⟩) N cf) us um))
        case first =>
          go_region_law (go_simp; go_at_call 21; with_reducible refine (same_c X0 X1 X2 X3 X4 X5 E.kind E.prin E.rank E.fy E.fm E.fd a b q b' m m' c d j' d' I1 I4 _ (Lib.hid (HQ.out.o1.below (Below.refl _ _).drew)) (Lib.hid (HQ.out.o2.below (Below.refl _ _).drew)) (Lib.hid (HQ.out.o3.below (Below.refl _ _).drew)) (Lib.hid (HQ.out.o4.below (Below.refl _ _).drew)) L1 L4 B1' B4').mono ?_; rintro e w1 ⟨rfl, hb1⟩; have HX3 := Lib.hid ((HX2.out.below (Below.refl _ _).drew).below hb1); clear hb1)
          all_goals (go_wp2_with fail)
          all_goals go_meet
          all_goals exact ⟨rfl, HX3⟩
        case rest =>
        obtain ⟨rfl, HX⟩ := hcut
        go_wp2_with fail
        exact ⟨⟨k + 1, by omega, by go_num, HX⟩, by simp [intOf]; omega⟩
      · obtain rfl : N = k := by omega
        go_wp2_with fail
        go_ret
        exact ⟨rfl, HX.out.bel⟩
end Go.Proofs.YtdgaflcnigljlaaGreatDoor
