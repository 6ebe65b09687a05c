/-
  Contracts and plain facts for the laws on the whole program: the parts below say each what they are. No further condition.
-/
import Derived.Test.YtdgaflcnigljlaaGreatDoorS25
import Derived.Test.YtdgaflcnigljlaaGreatDoorS38
import Derived.Test.YtdgaflcnigljlaaGreatDoorS43
set_option linter.unusedSimpArgs false
/-
  Contract of the order of transferred feasts, as the law on transfers reckons it. No further condition.
-/
namespace Go.Proofs.YtdgaflcnigljlaaGreatDoor
open Go.RowKit Go.Proofs Go.Proofs.YtdgaflcnigljlaaGreatDoorW.PrintWords
set_option linter.unusedVariables false
structure BfB (w W : World) (C : Cat) (A1 : Option Addr) (n1 c1 : Nat) (A2 : Option Addr) (n2 c2 : Nat) (R1 R2 : Array Value) : Prop where
  bel : Below w.heap.size w W
  box : Blk W w.heap.size #[.int .i64 C.free, .slice A1 n1 c1, .slice A2 n2 c2] 25
  b1 : Blk W (w.heap.size + 1) R1 42
  b2 : Blk W (w.heap.size + 1 + 1) R2 42
theorem BfB.new (w : World) (C : Cat) (A1 : Option Addr) (n1 c1 : Nat) (A2 : Option Addr) (n2 c2 : Nat) (R1 R2 : Array Value) : BfB w (((w.alloc (.cells #[.int .i64 C.free, .slice A1 n1 c1, .slice A2 n2 c2] 25)).alloc (.cells R1 42)).alloc (.cells R2 42)) C A1 n1 c1 A2 n2 c2 R1 R2 :=
  ⟨(((Below.refl _ _).alloc (Nat.le_refl _) _).alloc (by simp) _).alloc (by simp; omega) _, ((Blk.new _ _ _).alloc _).alloc _, (Blk.new2 _ _ _ _).alloc _, Blk.new3 _ _ _ _ _⟩
theorem BfB.below {w W W2 : World} {C : Cat} {A1 : Option Addr} {n1 c1 : Nat} {A2 : Option Addr} {n2 c2 : Nat} {R1 R2 : Array Value} (h : BfB w W C A1 n1 c1 A2 n2 c2 R1 R2) (hb : Below W.heap.size W W2) : BfB w W2 C A1 n1 c1 A2 n2 c2 R1 R2 := ⟨below_then h.bel h.bel.size hb, h.box.below hb, h.b1.below hb, h.b2.below hb⟩
/-- One transferred feast stands before another. -/
def BfOk (C : Cat) (x y z r : Int) (p : ByteArray) (x' y' z' r' : Int) (p' : ByteArray) : Prop :=
  (dLt x y z x' y' z' = true ∧ ¬ (x = x' ∧ y = y' ∧ z = z')) ∨ (x = x' ∧ y = y' ∧ z = z' ∧ (r < r' ∨ (r = r' ∧ ∃ i : Nat, i < C.feas.length ∧ (∃ f, C.feas[i]? = some f ∧ f.id = p) ∧ ∀ k f, k < i → C.feas[k]? = some f → ¬ f.id = p ∧ ¬ f.id = p')))
set_option maxRecDepth 20000 in
set_option maxHeartbeats 1000000 in
theorem tbefore_c (C : Cat) (A1 : Option Addr) (n1 c1 : Nat) (A2 : Option Addr) (n2 c2 : Nat) (a b c d : Int) (s : ByteArray) (k q : Int) (p : ByteArray) (r x y z : Int) (v1 v2 : Value) (a' b' c' d' : Int) (s' : ByteArray) (k' q' : Int) (p' : ByteArray) (r' x' y' z' : Int) (v1' v2' : Value) (w : World) (hI : Hid (CatIn w C A1 n1 c1 A2 n2 c2)) (hn : Hid (C.feas.length ≤ 31)) (h : BfOk C x y z r p x' y' z' r' p') :
    Calls Tryz.prog 17 #[.agg #[.int .i64 C.free, .slice A1 n1 c1, .slice A2 n2 c2], .agg (eR a b c d s k q p r x y z v1 v2), .agg (eR a' b' c' d' s' k' q' p' r' x' y' z' v1' v2')] w fun e w' => e = .returned (.bool true) ∧ Below w.heap.size w w' := by
  have HB := Lib.hid (BfB.new w C A1 n1 c1 A2 n2 c2 (eR a b c d s k q p r x y z v1 v2) (eR a' b' c' d' s' k' q' p' r' x' y' z' v1' v2'))
  have hv := date_neq x y z x' y' z'
  rcases h with ⟨h1, h2⟩ | ⟨rfl, rfl, rfl, h⟩
  · rw [dEq_no h2] at hv
    have DL := Lib.hid h1
    clear h1 h2
    go_enter Tryz.func17, Tryz.ntmps17
    go_wp2_with ((go_at_call 39; with_reducible refine (rless_c _ _ _ _ _ _ _).mono ?_; rintro e w1 ⟨rfl, hb⟩; rw [DL.out]; replace HB := Lib.hid (HB.out.below hb); clear hb))
    go_ret
    exact ⟨rfl, HB.out.bel⟩
  · rw [dEq_iff.2 ⟨rfl, rfl, rfl⟩] at hv
    rcases h with h | ⟨rfl, i, hi, ⟨f, hf, rfl⟩, hk⟩
    · have t1 : (r != r') = true := by simp; omega
      have t2 : decide (r < r') = true := by simpa using h
      clear h
      go_enter Tryz.func17, Tryz.ntmps17
      go_wp2_with fail
      go_ret
      exact ⟨rfl, HB.out.bel⟩
    · have HF := Lib.hid hf
      have HK := Lib.hid hk
      have i31 : i ≤ 31 := by have := hn.out; omega
      have HN2 := Lib.hid (show n2 = C.feas.length from hI.out.e2)
      have n31 : n2 ≤ 31 := by have := hn.out; have := hI.out.e2; omega
      have in2 : i < n2 := by have := hI.out.e2; omega
      clear hf hk hi
      go_enter Tryz.func17, Tryz.ntmps17
      go_wp2_with fail
      go_loopw [7] (fun j wr => ∃ m : Nat, m ≤ i ∧ j = .int .i64 m ∧ Hid (BfB w wr C A1 n1 c1 A2 n2 c2 (eR a b c d s k q f.id r x y z v1 v2) (eR a' b' c' d' s' k' q' p' r x y z v1' v2'))) (fun j _ => (i - intOf j).toNat)
      case atStart => exact ⟨0, by omega, rfl, HB⟩
      case round =>
        clear HB
        obtain ⟨m, m1, rfl, HB⟩ := hrel
        have mn : (m : Int) < n2 := by omega
        by_cases hm : m < i
        · obtain ⟨e, he⟩ : ∃ e, C.feas[m]? = some e := ⟨_, List.getElem?_eq_getElem (by have := HN2.out; omega)⟩
          obtain ⟨k1, k2⟩ := HK.out m e hm he
          have s1 : (e.id.toList == f.id.toList) = false := beq_no k1
          have s2 : (e.id.toList == p'.toList) = false := beq_no k2
          obtain ⟨ad2, ha2, hr2⟩ := hI.out.fea m e.cells (by rw [List.getElem?_map, he]; rfl)
          subst ha2
          have HR := Lib.hid hr2
          clear hr2 k1 k2 he
          obtain ⟨⟨x0, x1, x2⟩, _⟩ := HB.out.box.c3; have xl := HB.out.box.lt; obtain ⟨⟨g0, g1, g2, g3, g4, g5, g6, g7, g8, g9, g10, g11, g12, g13⟩, gl⟩ := HB.out.b1.c14; obtain ⟨⟨h0, h1, h2, h3, h4, h5, h6, h7, h8, h9, h10, h11, h12, h13⟩, hl⟩ := HB.out.b2.c14; obtain ⟨a0, a1, a2, a3, a4, a5, a6, a7, a8⟩ := RowIs.nine (HR.out.below HB.out.bel); have plt := (HR.out.below HB.out.bel).lt rfl
          go_upto_region 8 with fail
          go_quiet (fail)
          replace HB := Lib.hid (HB.out.below (below_drewN (Below.refl _ _) nq))
          clear x0 x1 x2 xl g0 g1 g2 g3 g4 g5 g6 g7 g8 g9 g10 g11 g12 g13 gl h0 h1 h2 h3 h4 h5 h6 h7 h8 h9 h10 h11 h12 h13 hl a0 a1 a2 a3 a4 a5 a6 a7 a8 plt
          obtain ⟨⟨x0, x1, x2⟩, _⟩ := HB.out.box.c3; have xl := HB.out.box.lt; obtain ⟨⟨g0, g1, g2, g3, g4, g5, g6, g7, g8, g9, g10, g11, g12, g13⟩, gl⟩ := HB.out.b1.c14; obtain ⟨⟨h0, h1, h2, h3, h4, h5, h6, h7, h8, h9, h10, h11, h12, h13⟩, hl⟩ := HB.out.b2.c14; obtain ⟨a0, a1, a2, a3, a4, a5, a6, a7, a8⟩ := RowIs.nine (HR.out.below HB.out.bel); have plt := (HR.out.below HB.out.bel).lt rfl
          go_upto_region 10 with fail
          generalize wr.drewN nq = wq at *
          go_quiet (fail)
          go_wp2_with fail
          exact ⟨⟨m + 1, by omega, by go_num, Lib.hid (HB.out.below (below_drewN (Below.refl _ _) _))⟩, by simp [intOf]; omega⟩
        · obtain rfl : i = m := by omega
          have s1 : (f.id.toList == f.id.toList) = true := beq_yes rfl
          obtain ⟨ad2, ha2, hr2⟩ := hI.out.fea i f.cells (by rw [List.getElem?_map, HF.out]; rfl)
          subst ha2
          have HR := Lib.hid hr2
          clear hr2
          obtain ⟨⟨x0, x1, x2⟩, _⟩ := HB.out.box.c3; have xl := HB.out.box.lt; obtain ⟨⟨g0, g1, g2, g3, g4, g5, g6, g7, g8, g9, g10, g11, g12, g13⟩, gl⟩ := HB.out.b1.c14; obtain ⟨⟨h0, h1, h2, h3, h4, h5, h6, h7, h8, h9, h10, h11, h12, h13⟩, hl⟩ := HB.out.b2.c14; obtain ⟨a0, a1, a2, a3, a4, a5, a6, a7, a8⟩ := RowIs.nine (HR.out.below HB.out.bel); have plt := (HR.out.below HB.out.bel).lt rfl
          go_upto_region 8 with fail
          go_quiet (fail)
          go_wp2_with fail
          go_ret
          exact ⟨rfl, below_drewN HB.out.bel _⟩
end Go.Proofs.YtdgaflcnigljlaaGreatDoor
/-
  The law on transfers: what its function answers. At all catalogues and years; the tables lie in memory as the program text lays them. No further condition.
-/
namespace Go.Proofs.YtdgaflcnigljlaaGreatDoor
open Go.RowKit Go.Proofs Go.MapKept Go.Proofs.YtdgaflcnigljlaaGreatDoorW.PrintWords
set_option linter.unusedVariables false
theorem feaOf_some {C : Cat} {a : Int} {f : Fea} (h : C.feas[a.toNat]? = some f) : feaOf C a = (f.id, f.rank) := by unfold feaOf; rw [h]
theorem bf_ok {C : Cat} (hG : C.Good) {y : Int} {l : List Mv} (hl : vMoves C y = some l) {u i : Nat} {m2 m : Mv} (hu : vTake l u = some m2) (hi : vTake l i = some m) (h : MvLt (FeLt C) m2 m) :
    BfOk C (vEnI C y l u).fy (vEnI C y l u).fm (vEnI C y l u).fd (vEnI C y l u).rank (vEnI C y l u).prin (vEnI C y l i).fy (vEnI C y l i).fm (vEnI C y l i).fd (vEnI C y l i).rank (vEnI C y l i).prin := by
  rw [en_some hu, en_some hi]
  simp only []
  have nx := vDays_next y
  obtain ⟨_, mo⟩ := moves_ok hG hl
  obtain ⟨f1, f2, f3, f4⟩ := mo m2 (List.mem_of_find?_eq_some hu)
  obtain ⟨g1, g2, g3, g4⟩ := mo m (List.mem_of_find?_eq_some hi)
  rcases h with h | ⟨h, hf⟩
  · left
    obtain ⟨e1, e2, e3⟩ := date_lt (y := y) (a := vFirst y + m2.src) (b := vFirst y + m.src) (by omega) (by omega) (by omega)
    rw [e1, e2]
    refine ⟨by unfold dLt; rw [decide_eq_true_iff]; omega, by omega⟩
  · right
    rw [h]
    refine ⟨rfl, rfl, rfl, ?_⟩
    rcases hf with hf | ⟨hf, hlt⟩
    · exact .inl hf
    · right
      obtain ⟨fa, hfa⟩ : ∃ f, C.feas[m2.feast.toNat]? = some f := ⟨_, List.getElem?_eq_getElem (by omega)⟩
      obtain ⟨fb, hfb⟩ : ∃ f, C.feas[m.feast.toNat]? = some f := ⟨_, List.getElem?_eq_getElem (by omega)⟩
      have nd : (C.feas.map Fea.id).Nodup := (List.nodup_append.1 hG.ids).2.1
      have key : ∀ {a b : Nat} {f g : Fea}, a < b → C.feas[a]? = some f → C.feas[b]? = some g → ¬ f.id = g.id := fun {a b f g} hab ha hb he => by
        obtain ⟨p1, p2⟩ := List.getElem?_eq_some_iff.1 ha
        obtain ⟨q1, q2⟩ := List.getElem?_eq_some_iff.1 hb
        have := List.pairwise_iff_getElem.1 nd a b (by simpa using p1) (by simpa using q1) hab
        rw [List.getElem_map, List.getElem_map, p2, q2] at this
        exact this he
      refine ⟨hf, m2.feast.toNat, by omega, ⟨fa, hfa, by rw [feaOf_some hfa]⟩, fun k f hk hkf => ⟨?_, ?_⟩⟩
      · rw [feaOf_some hfa]; exact key hk hkf hfa
      · rw [feaOf_some hfb]; exact key (by omega) hkf hfb
theorem en_kind3 {C : Cat} (hG : C.Good) {y : Int} {l : List Mv} {i : Nat} (h : (vEnI C y l i).kind = 3) : ∃ m, vTake l i = some m := by
  cases e : vTake l i with
  | some m => exact ⟨m, rfl⟩
  | none =>
    rw [en_none (by rw [e]; rfl)] at h
    simp only [] at h
    have hm := (vSort_perm _).mem_iff.1 (rz_mem hG y i)
    rcases List.mem_cons.1 hm with hp | hp
    · rw [hp] at h; simp [vTemp] at h
    · have := prop_kind hp; omega
theorem date_back {y : Int} (y1 : 1583 ≤ y) (y2 : y ≤ 1000000000) {s : Nat} (hs : s < vDays y) : vToN (vYear (vFirst y + s)) (mMon (vFirst y + s)) (mDay (vFirst y + s)) = vFirst y + s ∧ vToE (vYear (vFirst y + s)) (mMon (vFirst y + s)) (mDay (vFirst y + s)) = 0 := by
  obtain ⟨b1, b2⟩ := vFirst_bd (y := y) (by omega) (by omega)
  obtain ⟨b3, b4⟩ := vFirst_bd (y := y + 1) (by omega) (by omega)
  have nx := vDays_next y
  obtain ⟨v1, v2⟩ := from_valid (n := vFirst y + s) (by omega) (by omega)
  obtain ⟨o1, o2⟩ := vTo_ok v1
  exact ⟨o1.trans v2, o2⟩
theorem field48 (a b c d e f g : Value) (w : World) : (Instr.field 48 (.agg #[a, b, c, d, e, f, g]) 0).run Tryz.prog w = .ok (.agg #[a, b, c, d]) w := by kernel_rfl
structure TrB (w W : World) (C : Cat) (A1 : Option Addr) (n1 c1 : Nat) (A2 : Option Addr) (n2 c2 : Nat) (y : Int) (l : List Mv) (N kb : Nat) (en : Value) (us : List (Value × Value)) (vS vD : Value) : Prop where
  bel : Below w.heap.size w W
  box : Blk W w.heap.size #[.int .i64 C.free, .slice A1 n1 c1, .slice A2 n2 c2] 25
  kal : Blk W kb #[.int .i64 y, en] 31
  en : EnRes W w.heap.size C y l N en us
  st : Own W 0 3 1 vS (intRows (vSt C y))
  dy : Own W 0 3 1 vD (intRows (vDy C y))
theorem TrB.below {w W W2 : World} {C : Cat} {A1 : Option Addr} {n1 c1 : Nat} {A2 : Option Addr} {n2 c2 : Nat} {y : Int} {l : List Mv} {N kb : Nat} {en : Value} {us : List (Value × Value)} {vS vD : Value} (h : TrB w W C A1 n1 c1 A2 n2 c2 y l N kb en us vS vD) (hb : Below W.heap.size W W2) : TrB w W2 C A1 n1 c1 A2 n2 c2 y l N kb en us vS vD :=
  ⟨below_then h.bel h.bel.size hb, h.box.below hb, h.kal.below hb, h.en.below hb, h.st.below hb, h.dy.below hb⟩
set_option maxRecDepth 20000 in
set_option maxHeartbeats 2000000 in
theorem transfers_w (C : Cat) (A1 : Option Addr) (n1 c1 : Nat) (A2 : Option Addr) (n2 c2 : Nat) (y : Int) (w : World) (ht : Hid (Tabs w)) (hp : Hid (PowIn w)) (hI : Hid (CatIn w C A1 n1 c1 A2 n2 c2)) :
    Calls Tryz.prog 3 #[.agg #[.int .i64 C.free, .slice A1 n1 c1, .slice A2 n2 c2], .int .i64 y] w fun e w' => e = .returned (.bool true) ∧ Below w.heap.size w w' := by
  have HR := Lib.hid (RgB.new w C A1 n1 c1 A2 n2 c2)
  have HB := Lib.hid HR.out.bel
  by_cases hr : RightP C
  rotate_left
  · have PR := Lib.hid (pB_f hr)
    have PY := Lib.hid (show vInG y = vInG y from rfl)
    clear hr
    go_enter Tryz.func3, Tryz.ntmps3
    go_wp2_with (first | (go_at_call 7; with_reducible refine (awake_c _ (Lib.hid (ht.out.below HB.out)) (Lib.hid (hp.out.below HB.out))).mono ?_; rintro e w1 ⟨rfl, hb1⟩; replace HR := Lib.hid (HR.out.below hb1); replace HB := Lib.hid HR.out.bel; clear hb1; (try clear x0 x1 x2 xl xz); obtain ⟨⟨x0, x1, x2⟩, xz⟩ := HR.out.box.c3; have xl := HR.out.box.lt) | (go_at_call 8; with_reducible refine (right_c C A1 n1 c1 A2 n2 c2 _ (Lib.hid (hI.out.below HB.out))).mono ?_; rintro e w2 ⟨rfl, hb2⟩; rw [PR.out]; clear x0 x1 x2 xl xz; replace HR := Lib.hid (HR.out.below hb2); replace HB := Lib.hid HR.out.bel; clear hb2) | (go_at_call 9; with_reducible refine (ringreg_c y _).mono ?_; rintro e w3 ⟨rfl, rfl⟩; rw [PY.out]))
    go_ret
    exact ⟨rfl, HB.out⟩
  cases hy : vInG y with
  | false =>
    have PR := Lib.hid (pB_t hr)
    have PY := Lib.hid hy
    clear hr hy
    go_enter Tryz.func3, Tryz.ntmps3
    go_wp2_with (first | (go_at_call 7; with_reducible refine (awake_c _ (Lib.hid (ht.out.below HB.out)) (Lib.hid (hp.out.below HB.out))).mono ?_; rintro e w1 ⟨rfl, hb1⟩; replace HR := Lib.hid (HR.out.below hb1); replace HB := Lib.hid HR.out.bel; clear hb1; (try clear x0 x1 x2 xl xz); obtain ⟨⟨x0, x1, x2⟩, xz⟩ := HR.out.box.c3; have xl := HR.out.box.lt) | (go_at_call 8; with_reducible refine (right_c C A1 n1 c1 A2 n2 c2 _ (Lib.hid (hI.out.below HB.out))).mono ?_; rintro e w2 ⟨rfl, hb2⟩; rw [PR.out]; clear x0 x1 x2 xl xz; replace HR := Lib.hid (HR.out.below hb2); replace HB := Lib.hid HR.out.bel; clear hb2) | (go_at_call 9; with_reducible refine (ringreg_c y _).mono ?_; rintro e w3 ⟨rfl, rfl⟩; rw [PY.out]))
    go_ret
    exact ⟨rfl, HB.out⟩
  | true =>
  have PR := Lib.hid (pB_t hr)
  have PY := Lib.hid hy
  have HG := Lib.hid hr.1
  obtain ⟨y1, y2⟩ := vInG_iff.1 hy
  obtain ⟨vb1, vb2⟩ := vFirst_bd (y := y) (by omega) (by omega)
  clear hr hy HB
  go_enter Tryz.func3, Tryz.ntmps3
  go_upto_region 3 with (first | (go_at_call 7; with_reducible refine (awake_c _ (Lib.hid (ht.out.below HR.out.bel)) (Lib.hid (hp.out.below HR.out.bel))).mono ?_; rintro e w1 ⟨rfl, hb1⟩; replace HR := Lib.hid (HR.out.below hb1); clear hb1; obtain ⟨⟨x0, x1, x2⟩, _⟩ := HR.out.box.c3; have xl := HR.out.box.lt) | (go_at_call 8; with_reducible refine (right_c C A1 n1 c1 A2 n2 c2 _ (Lib.hid (hI.out.below HR.out.bel))).mono ?_; rintro e w2 ⟨rfl, hb2⟩; rw [PR.out]; clear x0 x1 x2 xl; replace HR := Lib.hid (HR.out.below hb2); clear hb2) | (go_at_call 9; with_reducible refine (ringreg_c _ _).mono ?_; rintro e w3 ⟨rfl, rfl⟩; rw [PY.out]))
  obtain ⟨⟨x0, x1, x2⟩, _⟩ := HR.out.box.c3
  have xl := HR.out.box.lt
  go_wp2_with fail
  refine (build_c C A1 n1 c1 A2 n2 c2 y _ (Lib.hid (ht.out.below HR.out.bel)) (Lib.hid (hI.out.below HR.out.bel)) HG y1 y2).mono ?_
  rintro e w3 ⟨(⟨h1, rfl⟩ | ⟨l, en, us, h1, rfl, h3⟩), hb3⟩
  · have HR3 := Lib.hid (HR.out.below hb3)
    clear hb3 h1 x0 x1 x2 xl HR
    go_wp2_with fail
    go_ret
    exact ⟨rfl, HR3.out.bel.alloc HR3.out.bel.size _⟩
  obtain ⟨ge, ce, rfl⟩ := h3.named2 (by have := vDays_in y; omega)
  have HM := Lib.hid h1
  have hW : Below w3.heap.size w3 (w3.alloc (.cells #[.int .i64 y, .slice (some ⟨ge, 0, none⟩) (vDays y) ce] 31)) := (Below.refl _ _).alloc (Nat.le_refl _) _
  have HE3 := Lib.hid ((h3.less HR.out.bel.size).below hW)
  have HK3 := Lib.hid (Blk.new w3 #[.int .i64 y, .slice (some ⟨ge, 0, none⟩) (vDays y) ce] 31)
  replace HR := Lib.hid ((HR.out.below hb3).below hW)
  clear hb3 h1 h3 x0 x1 x2 xl hW
  go_upto_region 4 with fail
  obtain ⟨kb, hkb⟩ : ∃ k, w3.heap.size = k := ⟨_, rfl⟩
  rw [hkb] at HK3 ⊢
  clear hkb
  generalize w3.alloc (.cells #[.int .i64 y, .slice (some ⟨ge, 0, none⟩) (vDays y) ce] 31) = W3 at *
  obtain ⟨⟨x0, x1, x2⟩, _⟩ := HR.out.box.c3
  have xl := HR.out.box.lt
  go_upto_region 9 with (first | (go_at_call 11; with_reducible refine (rfirst_c _ _ (by omega) (by omega)).mono ?_; rintro e w6 ⟨rfl, rfl⟩) | (go_at_call 12; with_reducible refine (rst_c C A1 n1 c1 A2 n2 c2 y _ (Lib.hid (hI.out.below HR.out.bel)) HG y1 y2).mono ?_; rintro e w4 ⟨vS, rfl, ho4, hb4⟩; have HS4 := Lib.hid (ho4.less (Nat.zero_le _)); replace HR := Lib.hid (HR.out.below hb4); replace HE3 := Lib.hid (HE3.out.below hb4); replace HK3 := Lib.hid (HK3.out.below hb4); clear ho4 hb4 x0 x1 x2 xl; obtain ⟨⟨x0, x1, x2⟩, _⟩ := HR.out.box.c3; have xl := HR.out.box.lt) | (go_at_call 13; with_reducible refine (rdy_c C A1 n1 c1 A2 n2 c2 y _ (Lib.hid (hI.out.below HR.out.bel)) HG y1 y2).mono ?_; rintro e w5 ⟨vD, rfl, ho5, hb5⟩; have HX := Lib.hid (TrB.mk (HR.out.below hb5).bel (HR.out.below hb5).box (HK3.out.below hb5) (HE3.out.below hb5) (HS4.out.below hb5) (ho5.less (Nat.zero_le _))); clear ho5 hb5 x0 x1 x2 xl HR HE3 HK3 HS4))
  obtain ⟨N1, N2⟩ := vDays_in y
  generalize hN : vDays y = N at HX N1 N2 ⊢
  have HN := Lib.hid hN
  clear hN
  go_wp2_with fail
  go_loopw [10] (fun j wr => ∃ k : Nat, k ≤ N ∧ j = .int .i64 k ∧ Hid (TrB w wr C A1 n1 c1 A2 n2 c2 y l N kb (.slice (some ⟨ge, 0, none⟩) N ce) us vS vD)) (fun j _ => (N - intOf j).toNat)
  case atStart => exact ⟨0, by omega, rfl, HX⟩
  case round =>
    clear HX
    obtain ⟨k, k1, rfl, HX⟩ := hrel
    obtain ⟨⟨f0, f1⟩, _⟩ := HX.out.kal.c2
    have fl := HX.out.kal.lt
    by_cases hk : k < N
    · have hk' : (k : Int) < N := by omega
      obtain ⟨a, n, c, a', n', c', HT1, gl1, R1⟩ := HX.out.en.row (j := k) hk
      clear HT1
      by_cases h3 : (vEnI C y l k).kind = 3
      · obtain ⟨m, hm⟩ := en_kind3 HG.out h3
        obtain ⟨s, e1, s1, s2, s3, s4⟩ := moved_ok HM.out hm
        have DB := Lib.hid (show vToN (vEnI C y l k).fy (vEnI C y l k).fm (vEnI C y l k).fd = vFirst y + s ∧ vToE (vEnI C y l k).fy (vEnI C y l k).fm (vEnI C y l k).fd = 0 by
          rw [en_some hm]
          simp only []
          rw [e1]
          exact date_back y1 y2 (by omega))
        have BO := Lib.hid (fun (u : Nat) (h1 : s < u) (h2 : u < k) (hr : C.free < (vRz C y u).p.rank) => show (vEnI C y l u).kind = 3 ∧ BfOk C (vEnI C y l u).fy (vEnI C y l u).fm (vEnI C y l u).fd (vEnI C y l u).rank (vEnI C y l u).prin (vEnI C y l k).fy (vEnI C y l k).fm (vEnI C y l k).fd (vEnI C y l k).rank (vEnI C y l k).prin by
          obtain ⟨m2, hm2, hlt⟩ := s4 u h1 h2 hr
          exact ⟨by rw [en_some hm2], bf_ok HG.out HM.out hm2 hm hlt⟩)
        have RK := Lib.hid s3
        have t3 : ((vEnI C y l k).kind != 3) = false := by simpa using h3
        clear s4 s3 s2 e1 hm h3
        generalize vYear (vFirst y + k) = X0 at R1
        generalize mMon (vFirst y + k) = X1 at R1
        generalize mDay (vFirst y + k) = X2 at R1
        generalize (vFirst y + k) % 7 = X3 at R1
        generalize (vSea C y (vFirst y + k)).id = X4 at R1
        generalize vWeek C y (vFirst y + k) = X5 at R1
        generalize vEnI C y l k = E at R1 DB BO t3
        have HXa := Lib.hid (HX.out.below ((Below.refl _ _).alloc (Nat.le_refl _) (.cells (eR X0 X1 X2 X3 X4 X5 E.kind E.prin E.rank E.fy E.fm E.fd (.slice a n c) (.slice a' n' c')) 42)))
        have HQ := Lib.hid (Blk.new wr (eR X0 X1 X2 X3 X4 X5 E.kind E.prin E.rank E.fy E.fm E.fd (.slice a n c) (.slice a' n' c')) 42)
        obtain ⟨r0, r1, r2, r3, r4, r5, r6, r7, r8, r9, r10, r11, r12, r13⟩ := R1
        go_upto_region 13 with fail
        clear r0 r1 r2 r3 r4 r5 r6 r7 r8 r9 r10 r11 r12 r13 f0 f1 fl
        generalize hxb : wr.heap.size = xb at HQ ⊢
        clear hxb HX
        generalize wr.alloc (.cells (eR X0 X1 X2 X3 X4 X5 E.kind E.prin E.rank E.fy E.fm E.fd (.slice a n c) (.slice a' n' c')) 42) = W4 at *
        obtain ⟨⟨r0, r1, r2, r3, r4, r5, r6, r7, r8, r9, r10, r11, r12, r13⟩, rl⟩ := HQ.out.c14
        obtain ⟨SS, hSS⟩ : ∃ SS, vFirst y + (s : Int) = SS := ⟨_, rfl⟩
        obtain ⟨T, hT⟩ : ∃ T, vFirst y + (k : Int) = T := ⟨_, rfl⟩
        rw [hSS] at DB
        have t4 : decide (SS < vFirst y) = false := by simp; omega
        have t5 : decide (T ≤ SS) = false := by simp; omega
        have HSS := Lib.hid hSS
        have SSb : SS ≤ 365242500401 := by omega
        have SSa : 1 ≤ SS := by omega
        clear hSS
        go_upto_region 17 with (first | (go_at_call 14; with_reducible refine (rto_c _ _ _ _).mono ?_; rintro e w5 ⟨rfl, hb5⟩; rw [DB.out.1, DB.out.2]; replace HXa := Lib.hid (HXa.out.below hb5); replace HQ := Lib.hid (HQ.out.below hb5); clear hb5 r0 r1 r2 r3 r4 r5 r6 r7 r8 r9 r10 r11 r12 r13 rl))
        have HT := Lib.hid hT
        clear t4 t5 hT t3
        go_wp2_with fail
        go_loopw [14] (fun uv w2 => ∃ u : Nat, s + 1 ≤ u ∧ u ≤ k + 1 ∧ uv = .int .i64 (vFirst y + u) ∧ Hid (TrB w w2 C A1 n1 c1 A2 n2 c2 y l N kb (.slice (some ⟨ge, 0, none⟩) N ce) us vS vD) ∧ Hid (Blk w2 xb (eR X0 X1 X2 X3 X4 X5 E.kind E.prin E.rank E.fy E.fm E.fd (.slice a n c) (.slice a' n' c')) 42)) (fun uv _ => (vFirst y + k + 1 - intOf uv).toNat)
        case atStart => exact ⟨s + 1, by omega, by omega, by have := HSS.out; congr 1; omega, HXa, HQ⟩
        case round =>
          clear HXa HQ
          obtain ⟨u, u0, u1, rfl, HX, HQ⟩ := hrel
          obtain ⟨U, hU⟩ : ∃ U, vFirst y + (u : Int) = U := ⟨_, rfl⟩
          rw [hU]
          have hT : vFirst y + (k : Int) = T := HT.out
          have Ub : U ≤ 365242500402 := by omega
          have Ua : 1 ≤ U := by omega
          have kb31 : (k : Int) ≤ 366 := by omega
          by_cases huk : u ≤ k
          · have t6 : decide (U ≤ T) = true := by simp; omega
            have PE := Lib.hid (show F (vSort (vCands C y U)) 0 = (vRz C y u).p by rw [← hU]; rfl)
            have huN : u < N := by omega
            have HU := Lib.hid hU
            clear hU
            go_upto_region 20 with fail
            clear t6
            have hB : Below wr.heap.size wr wr.drew := (Below.refl _ _).drew
            have hA := ((Below.refl wr.heap.size wr).alloc (Nat.le_refl _) (.cells #[.int .i64 0, .int .i64 0, .int .i64 0, .string ⟨#[]⟩] 46)).drew
            have HQA := (Blk.new wr #[.int .i64 0, .int .i64 0, .int .i64 0, .string ⟨#[]⟩] 46).drew
            have lt1 : w.heap.size < wr.heap.size := HX.out.box.lt
            have HI0 : ∀ V, Below wr.heap.size wr V → CatIn V C A1 n1 c1 A2 n2 c2 := fun V h => hI.out.below (HX.out.below h).bel
            have HST : ∀ V, Below wr.heap.size wr V → Own V 0 3 1 vS (intRows (vSt C y)) := fun V h => (HX.out.below h).st
            have HDY : ∀ V, Below wr.heap.size wr V → Own V 0 3 1 vD (intRows (vDy C y)) := fun V h => (HX.out.below h).dy
            have HC : ∀ V, Below wr.heap.size wr V → V.cell? ⟨w.heap.size, 0, none⟩ = some (.int .i64 C.free) ∧ V.cell? ⟨w.heap.size, 1, none⟩ = some (.slice A1 n1 c1) ∧ V.cell? ⟨w.heap.size, 2, none⟩ = some (.slice A2 n2 c2) := fun V h => ⟨(HX.out.below h).box.cell 0, (HX.out.below h).box.cell 1, (HX.out.below h).box.cell 2⟩
            obtain ⟨x0, x1, x2⟩ := HC _ (Below.refl _ _)
            have HTO := Lib.hid (cands_tot C y U)
            have HCD := Lib.hid (cands_ok HG.out y U)
            obtain ⟨CL1, CL2⟩ := cands_len HG.out y U
            have Uc : -1000000000000 ≤ U := by omega
            have Ud : U ≤ 1000000000000 := by omega
            generalize hP : (vRz C y u).p = P at PE ⊢
            have HP := Lib.hid hP
            clear hP
            have FD := field48
            go_cut [15] (fun v wy => ∃ pb, v = .pointer (some ⟨pb, 0, none⟩) ∧ Hid (TrB w wy C A1 n1 c1 A2 n2 c2 y l N kb (.slice (some ⟨ge, 0, none⟩) N ce) us vS vD) ∧ Hid (Blk wy xb (eR X0 X1 X2 X3 X4 X5 E.kind E.prin E.rank E.fy E.fm E.fd (.slice a n c) (.slice a' n' c')) 42) ∧ Hid (Blk wy pb #[.int .i64 P.kind, .int .i64 P.idx, .int .i64 P.rank, .string P.id] 46))
            case first =>
              go_region_held3 (fun w' => w'.cell? ⟨w.heap.size, 0, none⟩ = some (.int .i64 C.free) ∧ w'.cell? ⟨w.heap.size, 1, none⟩ = some (.slice A1 n1 c1) ∧ w'.cell? ⟨w.heap.size, 2, none⟩ = some (.slice A2 n2 c2))
                (first
                  | (with_reducible exact HC _ hB)
                  | (with_reducible exact HC _ hA)
                  | (simp only [cell_set_ne hqe]; with_reducible exact HC _ hB)
                  | (with_reducible exact HC _ (hB.alloc hB.size _)))
                (first
                  | (go_at_call 16; (first | with_reducible refine (rcand_c C A1 n1 c1 A2 n2 c2 y U vS vD 0 _ (Lib.hid (HI0 _ hB)) HG y1 y2 Uc Ud (Lib.hid (HST _ hB)) (Lib.hid (HDY _ hB))).mono ?_ | with_reducible refine (rcand_c C A1 n1 c1 A2 n2 c2 y U vS vD 0 _ (Lib.hid (HI0 _ hA)) HG y1 y2 Uc Ud (Lib.hid (HST _ hA)) (Lib.hid (HDY _ hA))).mono ?_); rintro e w5 ⟨v5, rfl, o5, hb5⟩; replace o5 := o5.less (Nat.zero_le _); (first | (with_reducible replace hB := hB.trans (hb5.mono hB.size)) | (have hq := HQA.below hb5; have hqe := ne_of_lt2 lt1 (Nat.le_refl wr.heap.size); have hql := Nat.le_refl wr.heap.size; replace hB := hA.trans (hb5.mono hA.size))); (try (have q0 := hq.cell 0; have q1 := hq.cell 1; have q2 := hq.cell 2; have q3 := hq.cell 3; have g0 := hq.frozen 0; have g1 := hq.frozen 1; have g2 := hq.frozen 2; have g3 := hq.frozen 3; have qqlt := hq.lt)))
                  | (go_at_call 15; (first | with_reducible refine (rres_c C A1 n1 c1 A2 n2 c2 (vCands C y U) v5 0 _ (Lib.hid (HI0 _ hB)) HG (Lib.hid o5) HTO HCD CL1 CL2).mono ?_ | with_reducible refine (rres_c C A1 n1 c1 A2 n2 c2 (vCands C y U) v5 0 _ (Lib.hid (HI0 _ (hB.alloc hB.size _))) HG (Lib.hid (o5.alloc _)) HTO HCD CL1 CL2).mono ?_); rintro e w6 ⟨z1, z2, z3, z4, z5, z6, z7, z8, z9, rfl, hb6⟩; rw [PE.out]; (first | (with_reducible replace hB := hB.trans (hb6.mono hB.size); (try with_reducible replace hq := hq.below hb6)) | (have hq := (Blk.new _ #[.int .i64 0, .int .i64 0, .int .i64 0, .string ⟨#[]⟩] 46).below hb6; have hqe := ne_of_lt2 lt1 hB.size; have hql := hB.size; replace hB := (hB.alloc hB.size _).trans (hb6.mono (hB.alloc hB.size _).size))); (try (have q0 := hq.cell 0; have q1 := hq.cell 1; have q2 := hq.cell 2; have q3 := hq.cell 3; have g0 := hq.frozen 0; have g1 := hq.frozen 1; have g2 := hq.frozen 2; have g3 := hq.frozen 3; have qqlt := hq.lt))))
              all_goals (go_wp2_with fail)
              all_goals go_meet
              · exact ⟨_, rfl, Lib.hid ((HX.out.below hB).below ((Below.refl _ _).alloc (Nat.le_refl _) _)), Lib.hid ((HQ.out.below hB).alloc _), Lib.hid (Blk.new _ _ _)⟩
              · exact ⟨_, rfl, Lib.hid (HX.out.below ((((hB.setCell hql _).setCell hql _).setCell hql _).setCell hql _)), Lib.hid (HQ.out.below ((((hB.setCell hql _).setCell hql _).setCell hql _).setCell hql _)), Lib.hid ((((hq.put 0 _ rfl).put 1 _ rfl).put 2 _ rfl).put 3 _ rfl)⟩
              · exact ⟨_, rfl, Lib.hid (HX.out.below ((((hB.setCell hql _).setCell hql _).setCell hql _).setCell hql _)), Lib.hid (HQ.out.below ((((hB.setCell hql _).setCell hql _).setCell hql _).setCell hql _)), Lib.hid ((((hq.put 0 _ rfl).put 1 _ rfl).put 2 _ rfl).put 3 _ rfl)⟩
            case rest =>
            clear HX HQ hB hA HQA lt1 HI0 HST HDY HC x0 x1 x2 HTO HCD CL1 CL2 FD PE
            obtain ⟨pb, rfl, HX, HQ, HPB⟩ := hcut
            obtain ⟨b, mm, cc, b', m', cc', HT2, gl2, R2⟩ := HX.out.en.row (j := u) huN
            clear HT2
            have BU := Lib.hid (fun (h1 : u < k) (h2 : C.free < P.rank) => BO.out u (by omega) h1 (by rw [HP.out]; exact h2))
            have RU := Lib.hid (fun (h1 : u = k) => show C.free < P.rank by rw [← HP.out, h1]; exact RK.out)
            generalize vYear (vFirst y + u) = Y0 at R2
            generalize mMon (vFirst y + u) = Y1 at R2
            generalize mDay (vFirst y + u) = Y2 at R2
            generalize (vFirst y + u) % 7 = Y3 at R2
            generalize (vSea C y (vFirst y + u)).id = Y4 at R2
            generalize vWeek C y (vFirst y + u) = Y5 at R2
            generalize vEnI C y l u = E2 at R2 BU
            have hUF : U - vFirst y = u := by have := HU.out; omega
            obtain ⟨⟨f0, f1⟩, _⟩ := HX.out.kal.c2
            have fl := HX.out.kal.lt
            have huN' : (u : Int) < N := by omega
            obtain ⟨r0, r1, r2, r3, r4, r5, r6, r7, r8, r9, r10, r11, r12, r13⟩ := R2
            go_upto_region 22 with fail
            clear r0 r1 r2 r3 r4 r5 r6 r7 r8 r9 r10 r11 r12 r13 f0 f1 fl
            have HXb := Lib.hid (HX.out.below ((Below.refl _ _).alloc (Nat.le_refl _) (.cells (eR Y0 Y1 Y2 Y3 Y4 Y5 E2.kind E2.prin E2.rank E2.fy E2.fm E2.fd (.slice b mm cc) (.slice b' m' cc')) 42)))
            have HQE := Lib.hid (Blk.new wc (eR Y0 Y1 Y2 Y3 Y4 Y5 E2.kind E2.prin E2.rank E2.fy E2.fm E2.fd (.slice b mm cc) (.slice b' m' cc')) 42)
            replace HQ := Lib.hid (HQ.out.alloc (.cells (eR Y0 Y1 Y2 Y3 Y4 Y5 E2.kind E2.prin E2.rank E2.fy E2.fm E2.fd (.slice b mm cc) (.slice b' m' cc')) 42))
            replace HPB := Lib.hid (HPB.out.alloc (.cells (eR Y0 Y1 Y2 Y3 Y4 Y5 E2.kind E2.prin E2.rank E2.fy E2.fm E2.fd (.slice b mm cc) (.slice b' m' cc')) 42))
            clear HX
            generalize heb : wc.heap.size = eb at HQE ⊢
            clear heb
            generalize wc.alloc (.cells (eR Y0 Y1 Y2 Y3 Y4 Y5 E2.kind E2.prin E2.rank E2.fy E2.fm E2.fd (.slice b mm cc) (.slice b' m' cc')) 42) = W5 at *
            obtain ⟨⟨x0, x1, x2⟩, _⟩ := HXb.out.box.c3
            have xl := HXb.out.box.lt
            obtain ⟨⟨p0, p1, p2, p3⟩, pl⟩ := HPB.out.c4
            obtain ⟨⟨r0, r1, r2, r3, r4, r5, r6, r7, r8, r9, r10, r11, r12, r13⟩, rl⟩ := HQE.out.c14
            obtain ⟨⟨s0, s1', s2, s3, s4, s5, s6, s7, s8, s9, s10, s11, s12, s13⟩, sl⟩ := HQ.out.c14
            rcases (show u = k ∨ u < k by omega) with h | h
            · have t7 : (U == T) = true := by rw [beq_iff_eq, ← hT, ← HU.out, h]
              have t8 : decide (P.rank ≤ C.free) = false := by have := RU.out h; simp; omega
              have t9 : decide (U < T) = false := by have := HU.out; simp; omega
              go_wp2_with fail
              exact ⟨⟨u + 1, by omega, by omega, by rw [← HU.out]; go_num, HXb, HQ⟩, by simp [intOf]; omega⟩
            · have t7 : (U == T) = false := by rw [beq_eq_false_iff_ne]; have := HU.out; omega
              have t9 : decide (U < T) = true := by have := HU.out; simp; omega
              by_cases hr : C.free < P.rank
              · have t10 : decide (C.free < P.rank) = true := by simpa using hr
                obtain ⟨b1, b2⟩ := BU.out h hr
                have t11 : (E2.kind == 3) = true := by simpa using b1
                have BB := Lib.hid b2
                have K31 := Lib.hid HG.out.n3
                clear b1 b2
                go_wp2_with ((go_at_call 17; with_reducible refine (tbefore_c C A1 n1 c1 A2 n2 c2 _ _ _ _ _ _ _ _ _ _ _ _ _ _ _ _ _ _ _ _ _ _ _ _ _ _ _ _ _ (Lib.hid (hI.out.below HXb.out.bel)) K31 BB.out).mono ?_; rintro e w7 ⟨rfl, hb7⟩; replace HXb := Lib.hid (HXb.out.below hb7); replace HQ := Lib.hid (HQ.out.below hb7); clear hb7))
                exact ⟨⟨u + 1, by omega, by omega, by rw [← HU.out]; go_num, HXb, HQ⟩, by simp [intOf]; omega⟩
              · have t10 : decide (C.free < P.rank) = false := by simpa using hr
                go_wp2_with fail
                exact ⟨⟨u + 1, by omega, by omega, by rw [← HU.out]; go_num, HXb, HQ⟩, by simp [intOf]; omega⟩
          · have t6 : decide (U ≤ T) = false := by simp; omega
            clear hU
            go_wp2_with fail
            exact ⟨⟨k + 1, by omega, by go_num, HX⟩, by simp [intOf]; omega⟩
      · have t3 : ((vEnI C y l k).kind != 3) = true := by simpa using h3
        have HXa := Lib.hid (fun o => HX.out.below ((Below.refl wr.heap.size wr).alloc (Nat.le_refl _) o))
        obtain ⟨r0, r1, r2, r3, r4, r5, r6, r7, r8, r9, r10, r11, r12, r13⟩ := R1
        clear h3
        go_wp2_with fail
        exact ⟨⟨k + 1, by omega, by go_num, Lib.hid (HXa.out _)⟩, by simp [intOf]; omega⟩
    · obtain rfl : N = k := by omega
      go_wp2_with fail
      go_ret
      exact ⟨rfl, HX.out.bel⟩
end Go.Proofs.YtdgaflcnigljlaaGreatDoor
