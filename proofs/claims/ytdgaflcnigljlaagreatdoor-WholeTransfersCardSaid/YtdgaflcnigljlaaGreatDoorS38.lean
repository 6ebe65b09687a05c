/-
  Contracts and plain facts for the laws on the whole program: the parts below say each what they are. No further condition.
-/
import Derived.Test.YtdgaflcnigljlaaGreatDoorS36
import Derived.Test.YtdgaflcnigljlaaGreatDoorS37
import Derived.BigQuiet
set_option linter.unusedSimpArgs false
/-
  Contracts of reference 23 (two like entries are the same) and of the date laid into another year. At all entries whose parts are alike. No further condition.
-/
namespace Go.Proofs.YtdgaflcnigljlaaGreatDoor
open Go.RowKit Go.Proofs Go.MapKept Go.Proofs.YtdgaflcnigljlaaGreatDoorW.PrintWords
set_option linter.unusedVariables false
set_option maxRecDepth 20000 in
theorem texts_c (A1 A2 : Option Addr) (n c1 c2 : Nat) (l : List ByteArray) (w : World) (h1 : Hid (Own w 0 9 1 (.slice A1 n c1) (strRows l))) (h2 : Hid (Own w 0 9 1 (.slice A2 n c2) (strRows l))) (hn : Hid (n = l.length)) (hm : n ≤ 1000) :
    Calls Tryz.prog 43 #[.slice A1 n c1, .slice A2 n c2] w fun e w' => e = .returned (.bool true) ∧ Below w.heap.size w w' := by
  have HB := Lib.hid (Below.refl w.heap.size w)
  go_enter Tryz.func43, Tryz.ntmps43
  go_wp2_with fail
  go_loopw [5] (fun j wr => ∃ m : Nat, m ≤ n ∧ j = .int .i64 m ∧ Hid (Below w.heap.size w wr)) (fun j _ => (n - intOf j).toNat)
  case atStart => exact ⟨0, by omega, rfl, HB⟩
  case round =>
    clear HB
    obtain ⟨m, m1, rfl, HB⟩ := hrel
    by_cases hk : m < n
    · obtain ⟨s, hs⟩ : ∃ s, (strRows l)[m]? = some #[.string s] := ⟨_, by rw [strRows, List.getElem?_map, List.getElem?_eq_getElem (by have := hn.out; omega)]; rfl⟩
      obtain ⟨g1, k1, e1, _, l1, _, q1⟩ := (h1.out.below HB.out).cell hs
      obtain ⟨g2, k2, e2, _, l2, _, q2⟩ := (h2.out.below HB.out).cell hs
      have a1 : wr.cell? ⟨g1, m, none⟩ = some (.string s) := by simpa using (q1 0 (by omega)).1
      have a2 : wr.cell? ⟨g2, m, none⟩ = some (.string s) := by simpa using (q2 0 (by omega)).1
      clear q1 q2 hs
      simp only [Value.slice.injEq] at e1 e2
      obtain ⟨rfl, -, rfl⟩ := e1
      obtain ⟨rfl, -, rfl⟩ := e2
      have hk' : (m : Int) < n := by omega
      go_upto_region 6 with fail
      go_quiet (fail)
      go_wp2_with fail
      exact ⟨⟨m + 1, by omega, by go_num, Lib.hid (below_drewN HB.out _)⟩, by simp [intOf]; omega⟩
    · obtain rfl : n = m := by omega
      go_wp2_with fail
      go_ret
      exact ⟨rfl, HB.out⟩
/-- The parts of an entry. -/
@[reducible] def eR (a b c d : Int) (s : ByteArray) (k q : Int) (p : ByteArray) (r x y z : Int) (v1 v2 : Value) : Array Value := #[.int .i64 a, .int .i64 b, .int .i64 c, .int .i64 d, .string s, .int .i64 k, .int .i64 q, .string p, .int .i64 r, .int .i64 x, .int .i64 y, .int .i64 z, v1, v2]
structure SmB (w W : World) (R1 R2 : Array Value) : Prop where
  bel : Below w.heap.size w W
  b1 : Blk W w.heap.size R1 42
  b2 : Blk W (w.heap.size + 1) R2 42
theorem SmB.new (w : World) (R1 R2 : Array Value) : SmB w ((w.alloc (.cells R1 42)).alloc (.cells R2 42)) R1 R2 := ⟨((Below.refl _ _).alloc (Nat.le_refl _) _).alloc (by simp) _, (Blk.new _ _ _).alloc _, by have := Blk.new (w.alloc (.cells R1 42)) R2 42; simpa using this⟩
theorem SmB.below {w W W2 : World} {R1 R2 : Array Value} (h : SmB w W R1 R2) (hb : Below W.heap.size W W2) : SmB w W2 R1 R2 := ⟨below_then h.bel h.bel.size hb, h.b1.below hb, h.b2.below hb⟩
def vDin (y a b c : Int) : Int := if a = 0 ∧ b = 0 ∧ c = 0 then 0 else y
set_option maxRecDepth 20000 in
theorem datein_c (a b c y : Int) (w : World) : Calls Tryz.prog 20 #[.agg (dC a b c), .int .i64 y] w fun e w' => e = .returned (.agg (dC (vDin y a b c) b c)) ∧ Below w.heap.size w w' := by
  have HB := Lib.hid (((Below.refl w.heap.size w).alloc (Nat.le_refl _) (.cells (dC a b c) 39)).alloc (by simp) (.cells (dC 0 0 0) 39))
  have hv := date_eql a b c 0 0 0
  cases hd : dEq a b c 0 0 0 with
  | true =>
    rw [hd] at hv
    obtain ⟨rfl, rfl, rfl⟩ := dEq_iff.1 hd
    clear hd
    go_enter Tryz.func20, Tryz.ntmps20
    go_wp2_with fail
    refine bodyPost_ret (results_cell_row rfl _ _ (w.heap.size + 1) 39 (dC 0 0 0) (0, 0) _ rfl (Blk.new2 _ _ _ _) Tryz.underlying39 rfl (by kernel_rfl)) rfl ?_
    exact ⟨by simp [vDin], ((Below.refl _ _).alloc (Nat.le_refl _) _).alloc (by simp) _⟩
  | false =>
    rw [hd] at hv
    have hz : ¬ (a = 0 ∧ b = 0 ∧ c = 0) := fun h => by rw [dEq_iff.2 h] at hd; cases hd
    have HV := Lib.hid (show vDin y a b c = y from if_neg hz)
    clear hd hz
    go_enter Tryz.func20, Tryz.ntmps20
    go_wp2_with fail
    refine bodyPost_ret (results_cell_row rfl _ _ (w.heap.size + 1) 39 (dC y b c) (0, 0) _ rfl (Blk.new2 _ _ _ _) Tryz.underlying39 rfl (by kernel_rfl)) rfl ?_
    exact ⟨by rw [HV.out], ((Below.refl _ _).alloc (Nat.le_refl _) _).alloc (by simp) _⟩
set_option maxRecDepth 20000 in
set_option maxHeartbeats 1000000 in
theorem same_c (a b c d : Int) (s : ByteArray) (k q : Int) (p : ByteArray) (r x y z : Int) (A1 A2 B1 B2 : Option Addr) (n m c1 c2 d1 d2 : Nat) (l1 l2 : List ByteArray) (w : World)
    (h1 : Hid (Own w 0 9 1 (.slice A1 n c1) (strRows l1))) (h2 : Hid (Own w 0 9 1 (.slice A2 n c2) (strRows l1))) (h3 : Hid (Own w 0 9 1 (.slice B1 m d1) (strRows l2))) (h4 : Hid (Own w 0 9 1 (.slice B2 m d2) (strRows l2))) (hn : Hid (n = l1.length)) (hm : Hid (m = l2.length)) (n3 : n ≤ 1000) (m3 : m ≤ 1000) :
    Calls Tryz.prog 21 #[.agg (eR a b c d s k q p r x y z (.slice A1 n c1) (.slice B1 m d1)), .agg (eR a b c d s k q p r x y z (.slice A2 n c2) (.slice B2 m d2))] w fun e w' => e = .returned (.bool true) ∧ Below w.heap.size w w' := by
  have HS := Lib.hid (SmB.new w (eR a b c d s k q p r x y z (.slice A1 n c1) (.slice B1 m d1)) (eR a b c d s k q p r x y z (.slice A2 n c2) (.slice B2 m d2)))
  have v1 := date_eql a b c a b c
  have v2 := date_eql x y z x y z
  rw [dEq_iff.2 ⟨rfl, rfl, rfl⟩] at v1 v2
  go_enter Tryz.func21, Tryz.ntmps21
  go_wp2_with (first | (go_at_call 43; with_reducible refine (texts_c _ _ _ _ _ l1 _ (Lib.hid (h1.out.below HS.out.bel)) (Lib.hid (h2.out.below HS.out.bel)) hn n3).mono ?_; rintro e w1 ⟨rfl, hb⟩; replace HS := Lib.hid (HS.out.below hb); clear hb; obtain ⟨⟨r0, r1, r2, r3, r4, r5, r6, r7, r8, r9, r10, r11, r12, r13⟩, rl⟩ := HS.out.b1.c14; obtain ⟨⟨s0, s1, s2, s3, s4, s5, s6, s7, s8, s9, s10, s11, s12, s13⟩, sl⟩ := HS.out.b2.c14) | (go_at_call 43; with_reducible refine (texts_c _ _ _ _ _ l2 _ (Lib.hid (h3.out.below HS.out.bel)) (Lib.hid (h4.out.below HS.out.bel)) hm m3).mono ?_; rintro e w1 ⟨rfl, hb⟩; replace HS := Lib.hid (HS.out.below hb); clear hb))
  go_ret
  exact ⟨rfl, HS.out.bel⟩
end Go.Proofs.YtdgaflcnigljlaaGreatDoor
/-
  The law on like years: what its function answers. At all catalogues and years; the tables lie in memory as the program text lays them. No further condition.
-/
namespace Go.Proofs.YtdgaflcnigljlaaGreatDoor
open Go.RowKit Go.Proofs Go.MapKept Go.Proofs.YtdgaflcnigljlaaGreatDoorW.PrintWords
set_option linter.unusedVariables false
theorem al_eas {y z : Int} (y1 : 1583 ≤ y) (y2 : y ≤ 1000000000) (z1 : 1583 ≤ z) (z2 : z ≤ 1000000000) (hl : vLeap z = vLeap y) (hm : mMon (vEas y) = mMon (vEas z)) (hd : mDay (vEas y) = mDay (vEas z)) : vEas y - vFirst y = vEas z - vFirst z := by
  have key : ∀ {y : Int}, 1583 ≤ y → y ≤ 1000000000 → vEas y = vTo y (mMon (vEas y)) (mDay (vEas y)) := fun {y} y1 y2 => by
    have h := eas_bd (y := y)
    have s := vFirst_succ y
    obtain ⟨b1, b2⟩ := vFirst_bd (y := y) (by omega) (by omega)
    obtain ⟨b3, b4⟩ := vFirst_bd (y := y + 1) (by omega) (by omega)
    have e := (from_valid (n := vEas y) (by omega) (by omega)).2
    rw [show vYear (vEas y) = y from vYear_uniq (by omega) (by omega)] at e
    exact e.symm
  have a := key y1 y2
  have b := key z1 z2
  rw [← hm, ← hd] at b
  generalize mMon (vEas y) = m at *
  generalize mDay (vEas y) = d at *
  unfold vTo at a b
  rw [hl] at b
  omega
/-- A day's entry in both years. -/
structure AlRow (C : Cat) (y z : Int) (l : List Mv) (k : Nat) : Prop where
  ye : vYear (vFirst y + k) = y
  ze : vYear (vFirst z + k) = z
  mo : mMon (vFirst z + k) = mMon (vFirst y + k)
  da : mDay (vFirst z + k) = mDay (vFirst y + k)
  wd : (vFirst z + k) % 7 = (vFirst y + k) % 7
  se : vSea C z (vFirst z + k) = vSea C y (vFirst y + k)
  wk : vWeek C z (vFirst z + k) = vWeek C y (vFirst y + k)
  en : vEnI C z l k = { vEnI C y l k with fy := (vEnI C z l k).fy }
  fy : vDin y (vEnI C z l k).fy (vEnI C y l k).fm (vEnI C y l k).fd = (vEnI C y l k).fy
theorem al_row {C : Cat} {y z D : Int} (h : Alkc C y z D) {l : List Mv} (hl : vMoves C y = some l) {k : Nat} (hk : k < vDays y) : AlRow C y z l k := by
  obtain ⟨d1, d2, d3, d4⟩ := h.a.date k (by omega) (by omega) h.days
  have fi := h.a.fi
  have nx := vDays_next y
  have e : vFirst z + (k : Int) = vFirst y + k + D := by omega
  obtain ⟨q1, q2, q3⟩ := h.en hl k
  refine ⟨d1, d2, d3, d4, ?_, ?_, ?_, ?_, ?_⟩
  · rw [e]; have := h.a.wk; omega
  · rw [e]; exact h.sea _
  · rw [e]; exact h.week _ (by omega) (by omega)
  · rw [q1]
  · rw [q1]
    cases t : (vTake l k).isSome with
    | false =>
      obtain ⟨f1, f2, f3⟩ := q2 t
      rw [f1, f2, f3]
      simp [vDin]
    | true =>
      rw [q3 t]
      have := h.z1
      simp only [if_true, vDin]
      rw [if_neg (by omega)]
structure AlB (w W : World) (C : Cat) (A1 : Option Addr) (n1 c1 : Nat) (A2 : Option Addr) (n2 c2 : Nat) (y z : Int) (l : List Mv) (kb kc : Nat) (en em : Value) (us um : List (Value × Value)) : Prop where
  bel : Below w.heap.size w W
  box : Blk W w.heap.size #[.int .i64 C.free, .slice A1 n1 c1, .slice A2 n2 c2] 25
  kal : Blk W kb #[.int .i64 y, en] 31
  kam : Blk W kc #[.int .i64 z, em] 31
  en : EnRes W w.heap.size C y l (vDays y) en us
  em : EnRes W w.heap.size C z l (vDays y) em um
theorem AlB.below {w W W2 : World} {C : Cat} {A1 : Option Addr} {n1 c1 : Nat} {A2 : Option Addr} {n2 c2 : Nat} {y z : Int} {l : List Mv} {kb kc : Nat} {en em : Value} {us um : List (Value × Value)} (h : AlB w W C A1 n1 c1 A2 n2 c2 y z l kb kc en em us um) (hb : Below W.heap.size W W2) : AlB w W2 C A1 n1 c1 A2 n2 c2 y z l kb kc en em us um :=
  ⟨below_then h.bel h.bel.size hb, h.box.below hb, h.kal.below hb, h.kam.below hb, h.en.below hb, h.em.below hb⟩
structure AlD (w W : World) (C : Cat) (A1 : Option Addr) (n1 c1 : Nat) (A2 : Option Addr) (n2 c2 : Nat) (p q : Nat) (d1 d2 : Array Value) : Prop where
  bel : Below w.heap.size w W
  box : Blk W w.heap.size #[.int .i64 C.free, .slice A1 n1 c1, .slice A2 n2 c2] 25
  a : Blk W p d1 39
  b : Blk W q d2 39
theorem E14.below {W W2 : World} {g o : Nat} {v0 v1 v2 v3 v4 v5 v6 v7 v8 v9 v10 v11 v12 v13 : Value} (h : E14 W g o v0 v1 v2 v3 v4 v5 v6 v7 v8 v9 v10 v11 v12 v13) (hg : g < W.heap.size) (hb : Below W.heap.size W W2) : E14 W2 g o v0 v1 v2 v3 v4 v5 v6 v7 v8 v9 v10 v11 v12 v13 :=
  ⟨(hb.cell hg).trans h.r0, (hb.cell hg).trans h.r1, (hb.cell hg).trans h.r2, (hb.cell hg).trans h.r3, (hb.cell hg).trans h.r4, (hb.cell hg).trans h.r5, (hb.cell hg).trans h.r6, (hb.cell hg).trans h.r7, (hb.cell hg).trans h.r8, (hb.cell hg).trans h.r9, (hb.cell hg).trans h.r10, (hb.cell hg).trans h.r11, (hb.cell hg).trans h.r12, (hb.cell hg).trans h.r13⟩
theorem slice_len {W : World} {b e sz n c : Nat} {A : Option Addr} {rows : List (Array Value)} (h : Own W b e sz (.slice A n c) rows) : n = rows.length := by
  obtain ⟨A', c', e, _⟩ := h.form
  simp only [Value.slice.injEq] at e
  exact e.2.1
theorem Two.len {W : World} {b n c n' c' : Nat} {C : Cat} {E : EntI} {A A' : Option Addr} (h : Two W b C E (.slice A n c, .slice A' n' c')) : n = (vIds C E.com).length ∧ n' = (vIds C E.omi).length :=
  ⟨by have := slice_len h.oc; simpa [strRows] using this, by have := slice_len h.oo; simpa [strRows] using this⟩
structure AlS (w W : World) (xb ge o : Nat) (row cs : Array Value) (L1 L2 : List ByteArray) (a b a' b' : Option Addr) (n c d n' c' d' : Nat) : Prop where
  bel : Below w.heap.size w W
  xl : w.heap.size ≤ xb
  q : Blk W xb row 42
  r : ∀ i, i < 14 → W.cell? ⟨ge, o + i, none⟩ = cs[i]?
  gl : ge < w.heap.size
  o1 : Own W 0 9 1 (.slice a n c) (strRows L1)
  o2 : Own W 0 9 1 (.slice b n d) (strRows L1)
  o3 : Own W 0 9 1 (.slice a' n' c') (strRows L2)
  o4 : Own W 0 9 1 (.slice b' n' d') (strRows L2)
theorem AlS.below {w W W2 : World} {xb ge o : Nat} {row cs : Array Value} {L1 L2 : List ByteArray} {a b a' b' : Option Addr} {n c d n' c' d' : Nat} (h : AlS w W xb ge o row cs L1 L2 a b a' b' n c d n' c' d') (hb : Below W.heap.size W W2) : AlS w W2 xb ge o row cs L1 L2 a b a' b' n c d n' c' d' :=
  ⟨below_then h.bel h.bel.size hb, h.xl, h.q.below hb, fun i hi => (hb.cell (Nat.lt_of_lt_of_le h.gl h.bel.size)).trans (h.r i hi), h.gl, h.o1.below hb, h.o2.below hb, h.o3.below hb, h.o4.below hb⟩
theorem AlS.put {w W : World} {xb ge o : Nat} {row row' cs : Array Value} {L1 L2 : List ByteArray} {a b a' b' : Option Addr} {n c d n' c' d' : Nat} (h : AlS w W xb ge o row cs L1 L2 a b a' b' n c d n' c' d') (i : Nat) (u : Value) (e : row.setIfInBounds i u = row') : AlS w (W.setCell ⟨xb, i, none⟩ u) xb ge o row' cs L1 L2 a b a' b' n c d n' c' d' := by
  have hg : W.grownBy (W.setCell ⟨xb, i, none⟩ u) (some xb) := gs_set _ _ _ _
  have hx : ∀ {A : Option Addr} {n c : Nat} {rows : List (Array Value)}, Own W 0 9 1 (.slice A n c) rows → Own (W.setCell ⟨xb, i, none⟩ u) 0 9 1 (.slice A n c) rows := fun o => o.kept hg (.inr (o.ne_blk h.q (by decide)))
  refine ⟨h.bel.setCell h.xl u, h.xl, h.q.put i u e, fun j hj => ?_, h.gl, hx h.o1, hx h.o2, hx h.o3, hx h.o4⟩
  rw [← h.r j hj]
  exact cell_set_ne (by have := h.gl; have := h.xl; simp; omega)
set_option maxRecDepth 20000 in
set_option maxHeartbeats 1000000 in
theorem alike_w (C : Cat) (A1 : Option Addr) (n1 c1 : Nat) (A2 : Option Addr) (n2 c2 : Nat) (y z : Int) (w : World) (ht : Hid (Tabs w)) (hp : Hid (PowIn w)) (hI : Hid (CatIn w C A1 n1 c1 A2 n2 c2)) :
    Calls Tryz.prog 4 #[.agg #[.int .i64 C.free, .slice A1 n1 c1, .slice A2 n2 c2], .int .i64 y, .int .i64 z] w fun e w' => e = .returned (.bool true) ∧ Below w.heap.size w w' := by
  have HR := Lib.hid (RgB.new w C A1 n1 c1 A2 n2 c2)
  have HB := Lib.hid HR.out.bel
  by_cases hr : RightP C
  rotate_left
  · have PR := Lib.hid (pB_f hr)
    have PY := Lib.hid (show vInG y = vInG y from rfl)
    have PZ := Lib.hid (show vInG z = vInG z from rfl)
    clear hr
    go_enter Tryz.func4, Tryz.ntmps4
    go_wp2_with (first | (go_at_call 7; with_reducible refine (awake_c _ (Lib.hid (ht.out.below HB.out)) (Lib.hid (hp.out.below HB.out))).mono ?_; rintro e w1 ⟨rfl, hb1⟩; replace HR := Lib.hid (HR.out.below hb1); replace HB := Lib.hid HR.out.bel; clear hb1; (try clear x0 x1 x2 xl xz); obtain ⟨⟨x0, x1, x2⟩, xz⟩ := HR.out.box.c3; have xl := HR.out.box.lt) | (go_at_call 8; with_reducible refine (right_c C A1 n1 c1 A2 n2 c2 _ (Lib.hid (hI.out.below HB.out))).mono ?_; rintro e w2 ⟨rfl, hb2⟩; rw [PR.out]; clear x0 x1 x2 xl xz; replace HR := Lib.hid (HR.out.below hb2); replace HB := Lib.hid HR.out.bel; clear hb2) | (go_at_call 9; with_reducible refine (ringreg_c y _).mono ?_; rintro e w3 ⟨rfl, rfl⟩; rw [PY.out]) | (go_at_call 9; with_reducible refine (ringreg_c z _).mono ?_; rintro e w3 ⟨rfl, rfl⟩; rw [PZ.out]))
    go_ret
    exact ⟨rfl, HB.out⟩
  cases hy : vInG y with
  | false =>
    have PR := Lib.hid (pB_t hr)
    have PY := Lib.hid hy
    have PZ := Lib.hid (show vInG z = vInG z from rfl)
    clear hr hy
    go_enter Tryz.func4, Tryz.ntmps4
    go_wp2_with (first | (go_at_call 7; with_reducible refine (awake_c _ (Lib.hid (ht.out.below HB.out)) (Lib.hid (hp.out.below HB.out))).mono ?_; rintro e w1 ⟨rfl, hb1⟩; replace HR := Lib.hid (HR.out.below hb1); replace HB := Lib.hid HR.out.bel; clear hb1; (try clear x0 x1 x2 xl xz); obtain ⟨⟨x0, x1, x2⟩, xz⟩ := HR.out.box.c3; have xl := HR.out.box.lt) | (go_at_call 8; with_reducible refine (right_c C A1 n1 c1 A2 n2 c2 _ (Lib.hid (hI.out.below HB.out))).mono ?_; rintro e w2 ⟨rfl, hb2⟩; rw [PR.out]; clear x0 x1 x2 xl xz; replace HR := Lib.hid (HR.out.below hb2); replace HB := Lib.hid HR.out.bel; clear hb2) | (go_at_call 9; with_reducible refine (ringreg_c y _).mono ?_; rintro e w3 ⟨rfl, rfl⟩; rw [PY.out]) | (go_at_call 9; with_reducible refine (ringreg_c z _).mono ?_; rintro e w3 ⟨rfl, rfl⟩; rw [PZ.out]))
    go_ret
    exact ⟨rfl, HB.out⟩
  | true =>
  cases hz : vInG z with
  | false =>
    have PR := Lib.hid (pB_t hr)
    have PY := Lib.hid hy
    have PZ := Lib.hid hz
    clear hr hy hz
    go_enter Tryz.func4, Tryz.ntmps4
    go_wp2_with (first | (go_at_call 7; with_reducible refine (awake_c _ (Lib.hid (ht.out.below HB.out)) (Lib.hid (hp.out.below HB.out))).mono ?_; rintro e w1 ⟨rfl, hb1⟩; replace HR := Lib.hid (HR.out.below hb1); replace HB := Lib.hid HR.out.bel; clear hb1; (try clear x0 x1 x2 xl xz); obtain ⟨⟨x0, x1, x2⟩, xz⟩ := HR.out.box.c3; have xl := HR.out.box.lt) | (go_at_call 8; with_reducible refine (right_c C A1 n1 c1 A2 n2 c2 _ (Lib.hid (hI.out.below HB.out))).mono ?_; rintro e w2 ⟨rfl, hb2⟩; rw [PR.out]; clear x0 x1 x2 xl xz; replace HR := Lib.hid (HR.out.below hb2); replace HB := Lib.hid HR.out.bel; clear hb2) | (go_at_call 9; with_reducible refine (ringreg_c y _).mono ?_; rintro e w3 ⟨rfl, rfl⟩; rw [PY.out]) | (go_at_call 9; with_reducible refine (ringreg_c z _).mono ?_; rintro e w3 ⟨rfl, rfl⟩; rw [PZ.out]))
    go_ret
    exact ⟨rfl, HB.out⟩
  | true =>
  have PR := Lib.hid (pB_t hr)
  have PY := Lib.hid hy
  have PZ := Lib.hid hz
  have HG := Lib.hid hr.1
  obtain ⟨y1, y2⟩ := vInG_iff.1 hy
  obtain ⟨z1, z2⟩ := vInG_iff.1 hz
  clear hr hy hz HB
  go_enter Tryz.func4, Tryz.ntmps4
  go_upto_region 3 with (first | (go_at_call 7; with_reducible refine (awake_c _ (Lib.hid (ht.out.below HR.out.bel)) (Lib.hid (hp.out.below HR.out.bel))).mono ?_; rintro e w1 ⟨rfl, hb1⟩; replace HR := Lib.hid (HR.out.below hb1); clear hb1; obtain ⟨⟨x0, x1, x2⟩, _⟩ := HR.out.box.c3; have xl := HR.out.box.lt) | (go_at_call 8; with_reducible refine (right_c C A1 n1 c1 A2 n2 c2 _ (Lib.hid (hI.out.below HR.out.bel))).mono ?_; rintro e w2 ⟨rfl, hb2⟩; rw [PR.out]; clear x0 x1 x2 xl; replace HR := Lib.hid (HR.out.below hb2); clear hb2) | (go_at_call 9; with_reducible refine (ringreg_c _ _).mono ?_; rintro e w3 ⟨rfl, rfl⟩; first | rw [PY.out] | rw [PZ.out]))
  go_upto_region 4 with (first | (go_at_call 18; with_reducible refine (redate_c y _ y1 y2).mono ?_; rintro e w4 ⟨rfl, hb4⟩; have HX := Lib.hid (And.intro (RgB.alloc (HR.out.below hb4) (.cells (dC (vYear (vEas y)) (mMon (vEas y)) (mDay (vEas y))) 39)) (Blk.new w4 (dC (vYear (vEas y)) (mMon (vEas y)) (mDay (vEas y))) 39)); clear hb4 HR))
  obtain ⟨pb, hpb⟩ : ∃ k, w4.heap.size = k := ⟨_, rfl⟩
  rw [hpb] at HX ⊢
  clear hpb
  generalize w4.alloc (.cells (dC (vYear (vEas y)) (mMon (vEas y)) (mDay (vEas y))) 39) = W4 at *
  go_upto_region 5 with (first | (go_at_call 18; with_reducible refine (redate_c z _ z1 z2).mono ?_; rintro e w5 ⟨rfl, hb5⟩; have HY := Lib.hid (AlD.mk ((HX.out.1.below hb5).alloc (.cells (dC (vYear (vEas z)) (mMon (vEas z)) (mDay (vEas z))) 39)).bel ((HX.out.1.below hb5).alloc (.cells (dC (vYear (vEas z)) (mMon (vEas z)) (mDay (vEas z))) 39)).box ((HX.out.2.below hb5).alloc _) (Blk.new w5 (dC (vYear (vEas z)) (mMon (vEas z)) (mDay (vEas z))) 39)); clear hb5 HX))
  obtain ⟨qb, hqb⟩ : ∃ k, w5.heap.size = k := ⟨_, rfl⟩
  rw [hqb] at HY ⊢
  clear hqb
  generalize w5.alloc (.cells (dC (vYear (vEas z)) (mMon (vEas z)) (mDay (vEas z))) 39) = W5 at *
  have EAS := Lib.hid (fun hl hm hd => @al_eas y z y1 y2 z1 z2 hl hm hd)
  obtain ⟨⟨a0, a1, a2⟩, _⟩ := HY.out.a.c3
  have al := HY.out.a.lt
  obtain ⟨⟨b0, b1, b2⟩, _⟩ := HY.out.b.c3
  have bl := HY.out.b.lt
  by_cases hm : mMon (vEas y) = mMon (vEas z)
  rotate_left
  · have m1 : (mMon (vEas y) != mMon (vEas z)) = true := by simpa using hm
    clear EAS hm
    go_wp2_with fail
    go_ret
    exact ⟨rfl, HY.out.bel⟩
  have m1 : (mMon (vEas y) != mMon (vEas z)) = false := by simpa using hm
  by_cases hd : mDay (vEas y) = mDay (vEas z)
  rotate_left
  · have m2 : (mDay (vEas y) != mDay (vEas z)) = true := by simpa using hd
    clear EAS hm hd
    go_wp2_with fail
    go_ret
    exact ⟨rfl, HY.out.bel⟩
  have m2 : (mDay (vEas y) != mDay (vEas z)) = false := by simpa using hd
  by_cases hl : vLeap z = vLeap y
  rotate_left
  · have m3 : (vLeap y == vLeap z) = false := by simpa using fun h => hl h.symm
    clear EAS hm hd hl
    go_wp2_with (first | (go_at_call 19; with_reducible refine (rleap_c _ _ (by omega) (by omega)).mono ?_; rintro e w1 ⟨rfl, rfl⟩))
    go_ret
    exact ⟨rfl, HY.out.bel⟩
  have m3 : (vLeap y == vLeap z) = true := by simpa using hl.symm
  have AK := Lib.hid (Alkc.mk (C := C) (alk_of hl (EAS.out hl hm hd)) HG.out y1 y2 z1 z2)
  clear EAS hm hd hl
  go_upto_region 7 with (first | (go_at_call 19; with_reducible refine (rleap_c _ _ (by omega) (by omega)).mono ?_; rintro e w1 ⟨rfl, rfl⟩))
  clear m1 m2 m3 a0 a1 a2 al b0 b1 b2 bl
  have HR := Lib.hid (RgB.mk HY.out.bel HY.out.box)
  clear HY
  obtain ⟨⟨x0, x1, x2⟩, _⟩ := HR.out.box.c3
  have xl := HR.out.box.lt
  go_wp2_with fail
  refine (build_c C A1 n1 c1 A2 n2 c2 y _ (Lib.hid (ht.out.below HR.out.bel)) (Lib.hid (hI.out.below HR.out.bel)) HG y1 y2).mono ?_
  rintro e w3 ⟨(⟨h1, rfl⟩ | ⟨l, en, us, h1, rfl, h3⟩), hb3⟩
  · have HM := Lib.hid h1
    have HS3 := Lib.hid ((HR.out.below hb3).alloc (.cells #[.int .i64 0, .slice none 0 0] 31))
    have HK3 := Lib.hid (Blk.new w3 #[.int .i64 0, .slice none 0 0] 31)
    clear hb3 h1 x0 x1 x2 xl HR
    go_upto_region 8 with fail
    obtain ⟨kb, hkb⟩ : ∃ k, w3.heap.size = k := ⟨_, rfl⟩
    rw [hkb] at HK3 ⊢
    clear hkb
    generalize w3.alloc (.cells #[.int .i64 0, .slice none 0 0] 31) = W3 at *
    obtain ⟨⟨x0, x1, x2⟩, _⟩ := HS3.out.box.c3
    have xl := HS3.out.box.lt
    go_wp2_with fail
    refine (build_c C A1 n1 c1 A2 n2 c2 z _ (Lib.hid (ht.out.below HS3.out.bel)) (Lib.hid (hI.out.below HS3.out.bel)) HG z1 z2).mono ?_
    rintro e w4 ⟨(⟨h1, rfl⟩ | ⟨l, en, us, h1, rfl, h3⟩), hb4⟩
    rotate_left
    · exfalso; rw [AK.out.moves, HM.out] at h1; cases h1
    have HS4 := Lib.hid ((HS3.out.below hb4).alloc (.cells #[.int .i64 0, .slice none 0 0] 31))
    have HK4 := Lib.hid ((HK3.out.below hb4).alloc (.cells #[.int .i64 0, .slice none 0 0] 31))
    have HL4 := Lib.hid (Blk.new w4 #[.int .i64 0, .slice none 0 0] 31)
    clear hb4 h1 x0 x1 x2 xl HK3 HS3
    go_upto_region 9 with fail
    obtain ⟨kc, hkc⟩ : ∃ k, w4.heap.size = k := ⟨_, rfl⟩
    rw [hkc] at HL4 ⊢
    clear hkc
    generalize w4.alloc (.cells #[.int .i64 0, .slice none 0 0] 31) = W4 at *
    obtain ⟨⟨f0, f1⟩, _⟩ := HK4.out.c2
    have fl := HK4.out.lt
    obtain ⟨⟨e0, e1⟩, _⟩ := HL4.out.c2
    have el := HL4.out.lt
    go_wp2_with fail
    go_loopw [13] (fun j wr => j = .int .i64 0 ∧ W4 = wr) (fun j _ => 0)
    case atStart => exact ⟨rfl, rfl⟩
    case round =>
      obtain ⟨rfl, rfl⟩ := hrel
      go_wp2_with fail
      go_ret
      exact ⟨rfl, HS4.out.bel⟩
  · have HM := Lib.hid h1
    obtain ⟨ge, ce, rfl⟩ := h3.named2 (by have := vDays_in y; omega)
    have HS3 := Lib.hid ((HR.out.below hb3).alloc (.cells #[.int .i64 y, .slice (some ⟨ge, 0, none⟩) (vDays y) ce] 31))
    have HE3 := Lib.hid ((h3.less HR.out.bel.size).below ((Below.refl _ _).alloc (Nat.le_refl _) (.cells #[.int .i64 y, .slice (some ⟨ge, 0, none⟩) (vDays y) ce] 31)))
    have HK3 := Lib.hid (Blk.new w3 #[.int .i64 y, .slice (some ⟨ge, 0, none⟩) (vDays y) ce] 31)
    clear hb3 h1 h3 x0 x1 x2 xl HR
    go_upto_region 8 with fail
    obtain ⟨kb, hkb⟩ : ∃ k, w3.heap.size = k := ⟨_, rfl⟩
    rw [hkb] at HK3 ⊢
    clear hkb
    generalize w3.alloc (.cells #[.int .i64 y, .slice (some ⟨ge, 0, none⟩) (vDays y) ce] 31) = W3 at *
    obtain ⟨⟨x0, x1, x2⟩, _⟩ := HS3.out.box.c3
    have xl := HS3.out.box.lt
    go_wp2_with fail
    refine (build_c C A1 n1 c1 A2 n2 c2 z _ (Lib.hid (ht.out.below HS3.out.bel)) (Lib.hid (hI.out.below HS3.out.bel)) HG z1 z2).mono ?_
    rintro e w4 ⟨(⟨h1, rfl⟩ | ⟨l2, en, um, h1, rfl, h3⟩), hb4⟩
    · exfalso; rw [AK.out.moves, HM.out] at h1; cases h1
    obtain rfl : l = l2 := by rw [AK.out.moves, HM.out] at h1; exact Option.some.inj h1
    clear h1
    rw [AK.out.days] at h3
    obtain ⟨gf, cf, rfl⟩ := h3.named2 (by have := vDays_in y; omega)
    have HX := Lib.hid (AlB.mk ((HS3.out.below hb4).alloc (.cells #[.int .i64 z, .slice (some ⟨gf, 0, none⟩) (vDays y) cf] 31)).bel ((HS3.out.below hb4).alloc (.cells #[.int .i64 z, .slice (some ⟨gf, 0, none⟩) (vDays y) cf] 31)).box ((HK3.out.below hb4).alloc (.cells #[.int .i64 z, .slice (some ⟨gf, 0, none⟩) (vDays y) cf] 31)) (Blk.new w4 #[.int .i64 z, .slice (some ⟨gf, 0, none⟩) (vDays y) cf] 31) ((HE3.out.below hb4).below ((Below.refl _ _).alloc (Nat.le_refl _) _)) ((h3.less HS3.out.bel.size).below ((Below.refl _ _).alloc (Nat.le_refl _) _)))
    clear hb4 h3 x0 x1 x2 xl HK3 HS3 HE3
    go_upto_region 9 with fail
    obtain ⟨kc, hkc⟩ : ∃ k, w4.heap.size = k := ⟨_, rfl⟩
    rw [hkc] at HX ⊢
    clear hkc
    generalize w4.alloc (.cells #[.int .i64 z, .slice (some ⟨gf, 0, none⟩) (vDays y) cf] 31) = W4 at *
    have AR := Lib.hid (fun (k : Nat) (hk : k < vDays y) => al_row AK.out HM.out hk)
    obtain ⟨N1, N2⟩ := vDays_in y
    clear HM
    have HN := Lib.hid (show vDays y = vDays y from rfl)
    generalize hN : vDays y = N at AR HX N1 N2 ⊢
    replace HN := Lib.hid hN
    clear hN
    obtain ⟨⟨f0, f1⟩, _⟩ := HX.out.kal.c2
    have fl := HX.out.kal.lt
    obtain ⟨⟨e0, e1⟩, _⟩ := HX.out.kam.c2
    have el := HX.out.kam.lt
    go_wp2_with fail
    go_loopw [13] (fun j wr => ∃ k : Nat, k ≤ N ∧ j = .int .i64 k ∧ Hid (AlB w wr C A1 n1 c1 A2 n2 c2 y z l kb kc (.slice (some ⟨ge, 0, none⟩) N ce) (.slice (some ⟨gf, 0, none⟩) N cf) us um)) (fun j _ => (N - intOf j).toNat)
    case atStart => exact ⟨0, by omega, rfl, HX⟩
    case round =>
      clear HX f0 f1 fl e0 e1 el
      obtain ⟨k, k1, rfl, HX⟩ := hrel
      obtain ⟨⟨f0, f1⟩, _⟩ := HX.out.kal.c2
      have fl := HX.out.kal.lt
      obtain ⟨⟨e0, e1⟩, _⟩ := HX.out.kam.c2
      have el := HX.out.kam.lt
      by_cases hk : k < N
      · have QR := AR.out k hk
        have hk' : (k : Int) < N := by omega
        obtain ⟨a, n, c, a', n', c', HT1, gl1, R1⟩ := HX.out.en.row (j := k) (by rw [HN.out]; exact hk)
        obtain ⟨b, m, d, b', m', d', HT2, gl2, R2⟩ := HX.out.em.row (j := k) (by rw [HN.out]; exact hk)
        obtain ⟨l1, l2⟩ := HT1.len
        obtain ⟨l3, l4⟩ := HT2.len
        have EO := en_ok HG.out y l k
        have B1 : n ≤ 1000 := by have := EO.2.2.1; rw [l1, vIds, List.length_map]; omega
        have B2 : n' ≤ 1000 := by have := EO.2.2.2; rw [l2, vIds, List.length_map]; omega
        have ek := congrArg EntI.kind QR.en
        have ep := congrArg EntI.prin QR.en
        have er := congrArg EntI.rank QR.en
        have em := congrArg EntI.fm QR.en
        have ed := congrArg EntI.fd QR.en
        have ec := congrArg EntI.com QR.en
        have eo := congrArg EntI.omi QR.en
        simp only [] at ek ep er em ed ec eo
        have O3 := HT2.oc
        have O4 := HT2.oo
        rw [ec] at O3 l3
        rw [eo] at O4 l4
        obtain rfl : m = n := by rw [l1, l3]
        obtain rfl : m' = n' := by rw [l2, l4]
        clear l3 l4 EO HT2 ec eo
        have QF := QR.fy
        rw [QR.ye] at R1
        rw [QR.ze, QR.mo, QR.da, QR.wd, QR.se, QR.wk, ek, ep, er, em, ed] at R2
        clear ek ep er em ed
        have VD := Lib.hid (show vDin y z (mMon (vFirst y + k)) (mDay (vFirst y + k)) = y by unfold vDin; rw [if_neg (by omega)])
        have VF := Lib.hid QF
        clear QF QR
        have O1 := HT1.oc
        have O2 := HT1.oo
        have L1 := Lib.hid l1
        have L2 := Lib.hid l2
        clear l1 l2 HT1
        generalize mMon (vFirst y + k) = X1 at *
        generalize mDay (vFirst y + k) = X2 at *
        generalize (vFirst y + k) % 7 = X3 at *
        generalize (vSea C y (vFirst y + k)).id = X4 at *
        generalize vWeek C y (vFirst y + k) = X5 at *
        generalize (vEnI C z l k).fy = F at *
        generalize vEnI C y l k = E at *
        generalize vIds C E.com = I1 at *
        generalize vIds C E.omi = I2 at *
        have HQ := Lib.hid (AlS.mk (w := wr) (W := wr.alloc (.cells (eR z X1 X2 X3 X4 X5 E.kind E.prin E.rank F E.fm E.fd (.slice b m d) (.slice b' m' d')) 42)) (xb := wr.heap.size) (ge := ge) (o := k * 14) (row := eR z X1 X2 X3 X4 X5 E.kind E.prin E.rank F E.fm E.fd (.slice b m d) (.slice b' m' d')) (cs := eR y X1 X2 X3 X4 X5 E.kind E.prin E.rank E.fy E.fm E.fd (.slice a m c) (.slice a' m' c')) ((Below.refl _ _).alloc (Nat.le_refl _) _) (Nat.le_refl _) (Blk.new _ _ _) (fun i hi => by
          rw [((Below.refl wr.heap.size wr).alloc (Nat.le_refl _) _).cell gl1]
          rcases (show i = 0 ∨ i = 1 ∨ i = 2 ∨ i = 3 ∨ i = 4 ∨ i = 5 ∨ i = 6 ∨ i = 7 ∨ i = 8 ∨ i = 9 ∨ i = 10 ∨ i = 11 ∨ i = 12 ∨ i = 13 by omega) with rfl | rfl | rfl | rfl | rfl | rfl | rfl | rfl | rfl | rfl | rfl | rfl | rfl | rfl
          · exact R1.r0
          · exact R1.r1
          · exact R1.r2
          · exact R1.r3
          · exact R1.r4
          · exact R1.r5
          · exact R1.r6
          · exact R1.r7
          · exact R1.r8
          · exact R1.r9
          · exact R1.r10
          · exact R1.r11
          · exact R1.r12
          · exact R1.r13) gl1 ((O1.alloc _).less (Nat.zero_le _)) ((O3.alloc _).less (Nat.zero_le _)) ((O2.alloc _).less (Nat.zero_le _)) ((O4.alloc _).less (Nat.zero_le _)))
        clear O1 O2 O3 O4 R1
        obtain ⟨r0, r1, r2, r3, r4, r5, r6, r7, r8, r9, r10, r11, r12, r13⟩ := R2
        go_upto_region 15 with fail
        clear r0 r1 r2 r3 r4 r5 r6 r7 r8 r9 r10 r11 r12 r13 f0 f1 fl e0 e1 el
        generalize hxb : wr.heap.size = xb at HQ ⊢
        generalize wr.alloc (.cells (eR z X1 X2 X3 X4 X5 E.kind E.prin E.rank F E.fm E.fd (.slice b m d) (.slice b' m' d')) 42) = W5 at *
        obtain ⟨⟨r0, r1, r2, r3, r4, r5, r6, r7, r8, r9, r10, r11, r12, r13⟩, rl⟩ := HQ.out.q.c14
        go_cut [] (fun wy => Hid (AlS wr wy xb ge (k * 14) (eR y X1 X2 X3 X4 X5 E.kind E.prin E.rank F E.fm E.fd (.slice b m d) (.slice b' m' d')) (eR y X1 X2 X3 X4 X5 E.kind E.prin E.rank E.fy E.fm E.fd (.slice a m c) (.slice a' m' c')) I1 I2 a b a' b' m c d m' c' d'))
        case first =>
          go_wp2_with ((go_at_call 20; with_reducible refine (datein_c _ _ _ _ _).mono ?_; rintro e w1 ⟨rfl, hb1⟩; rw [VD.out]; clear r0 r1 r2 r3 r4 r5 r6 r7 r8 r9 r10 r11 r12 r13 rl; replace HQ := Lib.hid (HQ.out.below hb1); clear hb1; obtain ⟨⟨r0, r1, r2, r3, r4, r5, r6, r7, r8, r9, r10, r11, r12, r13⟩, rl⟩ := HQ.out.q.c14; have g0 : w1.frozen? ⟨xb, 0, none⟩ = false := HQ.out.q.frozen 0; have g1 : w1.frozen? ⟨xb, 1, none⟩ = false := HQ.out.q.frozen 1; have g2 : w1.frozen? ⟨xb, 2, none⟩ = false := HQ.out.q.frozen 2))
          go_meet
          exact Lib.hid (((HQ.out.put 0 _ rfl).put 1 _ rfl).put 2 _ rfl)
        case rest =>
        replace HQ := hcut
        clear r0 r1 r2 r3 r4 r5 r6 r7 r8 r9 r10 r11 r12 r13 rl
        obtain ⟨⟨r0, r1, r2, r3, r4, r5, r6, r7, r8, r9, r10, r11, r12, r13⟩, rl⟩ := HQ.out.q.c14
        go_upto_region 16 with fail
        go_cut [] (fun wz => Hid (AlS wr wz xb ge (k * 14) (eR y X1 X2 X3 X4 X5 E.kind E.prin E.rank E.fy E.fm E.fd (.slice b m d) (.slice b' m' d')) (eR y X1 X2 X3 X4 X5 E.kind E.prin E.rank E.fy E.fm E.fd (.slice a m c) (.slice a' m' c')) I1 I2 a b a' b' m c d m' c' d'))
        case first =>
          go_wp2_with ((go_at_call 20; with_reducible refine (datein_c _ _ _ _ _).mono ?_; rintro e w1 ⟨rfl, hb1⟩; rw [VF.out]; clear r0 r1 r2 r3 r4 r5 r6 r7 r8 r9 r10 r11 r12 r13 rl; replace HQ := Lib.hid (HQ.out.below hb1); clear hb1; obtain ⟨⟨r0, r1, r2, r3, r4, r5, r6, r7, r8, r9, r10, r11, r12, r13⟩, rl⟩ := HQ.out.q.c14; have g9 : w1.frozen? ⟨xb, 9, none⟩ = false := HQ.out.q.frozen 9; have g10 : w1.frozen? ⟨xb, 10, none⟩ = false := HQ.out.q.frozen 10; have g11 : w1.frozen? ⟨xb, 11, none⟩ = false := HQ.out.q.frozen 11))
          go_meet
          exact Lib.hid (((HQ.out.put 9 _ rfl).put 10 _ rfl).put 11 _ rfl)
        case rest =>
        replace HQ := hcut
        clear r0 r1 r2 r3 r4 r5 r6 r7 r8 r9 r10 r11 r12 r13 rl
        go_upto_region 17 with fail
        obtain ⟨⟨r0, r1, r2, r3, r4, r5, r6, r7, r8, r9, r10, r11, r12, r13⟩, rl⟩ := HQ.out.q.c14
        have HX2 := Lib.hid (HX.out.below HQ.out.bel)
        clear HX
        obtain ⟨⟨f0, f1⟩, _⟩ := HX2.out.kal.c2
        have fl := HX2.out.kal.lt
        have q0 : World.cell? _ ⟨ge, k * 14, none⟩ = some (.int .i64 y) := HQ.out.r 0 (by decide)
        have q1 : World.cell? _ ⟨ge, k * 14 + 1, none⟩ = some (.int .i64 X1) := HQ.out.r 1 (by decide)
        have q2 : World.cell? _ ⟨ge, k * 14 + 2, none⟩ = some (.int .i64 X2) := HQ.out.r 2 (by decide)
        have q3 : World.cell? _ ⟨ge, k * 14 + 3, none⟩ = some (.int .i64 X3) := HQ.out.r 3 (by decide)
        have q4 : World.cell? _ ⟨ge, k * 14 + 4, none⟩ = some (.string X4) := HQ.out.r 4 (by decide)
        have q5 : World.cell? _ ⟨ge, k * 14 + 5, none⟩ = some (.int .i64 X5) := HQ.out.r 5 (by decide)
        have q6 : World.cell? _ ⟨ge, k * 14 + 6, none⟩ = some (.int .i64 E.kind) := HQ.out.r 6 (by decide)
        have q7 : World.cell? _ ⟨ge, k * 14 + 7, none⟩ = some (.string E.prin) := HQ.out.r 7 (by decide)
        have q8 : World.cell? _ ⟨ge, k * 14 + 8, none⟩ = some (.int .i64 E.rank) := HQ.out.r 8 (by decide)
        have q9 : World.cell? _ ⟨ge, k * 14 + 9, none⟩ = some (.int .i64 E.fy) := HQ.out.r 9 (by decide)
        have q10 : World.cell? _ ⟨ge, k * 14 + 10, none⟩ = some (.int .i64 E.fm) := HQ.out.r 10 (by decide)
        have q11 : World.cell? _ ⟨ge, k * 14 + 11, none⟩ = some (.int .i64 E.fd) := HQ.out.r 11 (by decide)
        have q12 : World.cell? _ ⟨ge, k * 14 + 12, none⟩ = some (.slice a m c) := HQ.out.r 12 (by decide)
        have q13 : World.cell? _ ⟨ge, k * 14 + 13, none⟩ = some (.slice a' m' c') := HQ.out.r 13 (by decide)
        have ql := Nat.lt_of_lt_of_le HQ.out.gl HQ.out.bel.size
        go_cut [109] (fun v wv => v = .bool false ∧ Hid (AlB w wv C A1 n1 c1 A2 n2 c2 y z l kb kc (.slice (some ⟨ge, 0, none⟩) N ce) (.slice (some ⟨gf, 0, none⟩) N cf) us um))
        case first =>
          go_region_law (go_simp; go_at_call 21; with_reducible refine (same_c y X1 X2 X3 X4 X5 E.kind E.prin E.rank E.fy E.fm E.fd a b a' b' m m' c d c' d' I1 I2 _ (Lib.hid (HQ.out.o1.below (Below.refl _ _).drew)) (Lib.hid (HQ.out.o2.below (Below.refl _ _).drew)) (Lib.hid (HQ.out.o3.below (Below.refl _ _).drew)) (Lib.hid (HQ.out.o4.below (Below.refl _ _).drew)) L1 L2 B1 B2).mono ?_; rintro e w1 ⟨rfl, hb1⟩; have HX3 := Lib.hid ((HX2.out.below (Below.refl _ _).drew).below hb1); clear hb1)
          all_goals (go_wp2_with fail)
          all_goals go_meet
          all_goals exact ⟨rfl, HX3⟩
        case rest =>
        obtain ⟨rfl, HX⟩ := hcut
        go_wp2_with fail
        exact ⟨⟨k + 1, by omega, by go_num, HX⟩, by simp [intOf]; omega⟩
      · obtain rfl : N = k := by omega
        go_wp2_with fail
        go_ret
        exact ⟨rfl, HX.out.bel⟩
end Go.Proofs.YtdgaflcnigljlaaGreatDoor
