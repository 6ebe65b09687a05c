/-
  Contracts and plain facts for the laws on the whole program: the parts below say each what they are. No further condition.
-/
import Derived.Test.YtdgaflcnigljlaaGreatDoorS25
import Derived.Test.YtdgaflcnigljlaaGreatDoorS29
import Derived.Test.YtdgaflcnigljlaaGreatDoorS35
set_option linter.unusedSimpArgs false
/-
  The law on seasons: what its function answers. At all catalogues and years; the tables lie in memory as the program text lays them. No further condition.
-/
namespace Go.Proofs.YtdgaflcnigljlaaGreatDoor
open Go.RowKit Go.Proofs Go.MapKept Go.Proofs.YtdgaflcnigljlaaGreatDoorW.PrintWords
set_option linter.unusedVariables false
/-- What the laws keep: the catalogue's box, the calendar's, a date's. -/
structure SnB (w W : World) (C : Cat) (A1 : Option Addr) (n1 c1 : Nat) (A2 : Option Addr) (n2 c2 : Nat) (y : Int) (l : List Mv) (kb db : Nat) (en : Value) (us : List (Value × Value)) (dc : Array Value) : Prop where
  bel : Below w.heap.size w W
  box : Blk W w.heap.size #[.int .i64 C.free, .slice A1 n1 c1, .slice A2 n2 c2] 25
  kal : Blk W kb #[.int .i64 y, en] 31
  dat : Blk W db dc 39
  en : EnRes W w.heap.size C y l (vDays y) en us
theorem SnB.below {w W W2 : World} {C : Cat} {A1 : Option Addr} {n1 c1 : Nat} {A2 : Option Addr} {n2 c2 : Nat} {y : Int} {l : List Mv} {kb db : Nat} {en : Value} {us : List (Value × Value)} {dc : Array Value} (h : SnB w W C A1 n1 c1 A2 n2 c2 y l kb db en us dc) (hb : Below W.heap.size W W2) : SnB w W2 C A1 n1 c1 A2 n2 c2 y l kb db en us dc :=
  ⟨below_then h.bel h.bel.size hb, h.box.below hb, h.kal.below hb, h.dat.below hb, h.en.below hb⟩
theorem RgB.alloc {w W : World} {C : Cat} {A1 A2 : Option Addr} {n1 c1 n2 c2 : Nat} (h : RgB w W C A1 n1 c1 A2 n2 c2) (o : Obj) : RgB w (W.alloc o) C A1 n1 c1 A2 n2 c2 := h.below ((Below.refl _ _).alloc (Nat.le_refl _) _)
/-- A row of fourteen cells. -/
structure E14 (W : World) (g o : Nat) (v0 v1 v2 v3 v4 v5 v6 v7 v8 v9 v10 v11 v12 v13 : Value) : Prop where
  r0 : W.cell? ⟨g, o, none⟩ = some v0
  r1 : W.cell? ⟨g, o + 1, none⟩ = some v1
  r2 : W.cell? ⟨g, o + 2, none⟩ = some v2
  r3 : W.cell? ⟨g, o + 3, none⟩ = some v3
  r4 : W.cell? ⟨g, o + 4, none⟩ = some v4
  r5 : W.cell? ⟨g, o + 5, none⟩ = some v5
  r6 : W.cell? ⟨g, o + 6, none⟩ = some v6
  r7 : W.cell? ⟨g, o + 7, none⟩ = some v7
  r8 : W.cell? ⟨g, o + 8, none⟩ = some v8
  r9 : W.cell? ⟨g, o + 9, none⟩ = some v9
  r10 : W.cell? ⟨g, o + 10, none⟩ = some v10
  r11 : W.cell? ⟨g, o + 11, none⟩ = some v11
  r12 : W.cell? ⟨g, o + 12, none⟩ = some v12
  r13 : W.cell? ⟨g, o + 13, none⟩ = some v13
/-- The entry of a day, as it lies in memory. -/
theorem EnRes.row {W : World} {base : Nat} {C : Cat} {y : Int} {l : List Mv} {N ge n0 ce : Nat} {us : List (Value × Value)} (h : EnRes W base C y l N (.slice (some ⟨ge, 0, none⟩) n0 ce) us) {j : Nat} (hj : j < N) :
    ∃ a n c a' n' c', Two W base C (vEnI C y l j) (.slice a n c, .slice a' n' c') ∧ ge < W.heap.size ∧ E14 W ge (j * 14) (.int .i64 (vYear (vFirst y + j))) (.int .i64 (mMon (vFirst y + j))) (.int .i64 (mDay (vFirst y + j))) (.int .i64 ((vFirst y + j) % 7)) (.string (vSea C y (vFirst y + j)).id) (.int .i64 (vWeek C y (vFirst y + j))) (.int .i64 (vEnI C y l j).kind) (.string (vEnI C y l j).prin) (.int .i64 (vEnI C y l j).rank) (.int .i64 (vEnI C y l j).fy) (.int .i64 (vEnI C y l j).fm) (.int .i64 (vEnI C y l j).fd) (.slice a n c) (.slice a' n' c') := by
  obtain ⟨u, hu⟩ : ∃ u, us[j]? = some u := ⟨_, List.getElem?_eq_getElem (by have := h.len; omega)⟩
  have H2 := h.ins j u hu
  obtain ⟨a, n, c, a', n', c', rfl⟩ := H2.form
  obtain ⟨g', cap, he, _, glt, _, hc⟩ := h.out.cell (enRows_at hu)
  simp only [Value.slice.injEq, Option.some.injEq, Addr.mk.injEq, and_true] at he
  obtain ⟨rfl, -, -⟩ := he
  exact ⟨a, n, c, a', n', c', H2, glt, (hc 0 (by omega)).1, (hc 1 (by omega)).1, (hc 2 (by omega)).1, (hc 3 (by omega)).1, (hc 4 (by omega)).1, (hc 5 (by omega)).1, (hc 6 (by omega)).1, (hc 7 (by omega)).1, (hc 8 (by omega)).1, (hc 9 (by omega)).1, (hc 10 (by omega)).1, (hc 11 (by omega)).1, (hc 12 (by omega)).1, (hc 13 (by omega)).1⟩
theorem EnRes.named2 {W : World} {base : Nat} {C : Cat} {y : Int} {l : List Mv} {N : Nat} {v : Value} {us : List (Value × Value)} (h : EnRes W base C y l N v us) (hN : 0 < N) : ∃ ge ce, v = .slice (some ⟨ge, 0, none⟩) N ce := by
  obtain ⟨g', cap, he, _⟩ := h.out.cell (k := 0) (List.getElem?_eq_getElem (by rw [enRows_len, h.len]; omega))
  exact ⟨g', cap, by rw [he, enRows_len, h.len]⟩
theorem vDays_in (y : Int) : 365 ≤ vDays y ∧ vDays y ≤ 366 := by have := lp01 (vLeap y); unfold vDays; omega
/-- A season's celebration has the season's rank. -/
theorem sea_rank {C : Cat} (hG : C.Good) {y : Int} {l : List Mv} {i : Nat} (h : (vEnI C y l i).kind = 1) : (vEnI C y l i).prin = (vSea C y (vFirst y + i)).id ∧ (vEnI C y l i).rank = if (vFirst y + i) % 7 = 0 then (vSea C y (vFirst y + i)).sun else (vSea C y (vFirst y + i)).wk := by
  cases e : vTake l i with
  | some m => rw [en_some e] at h; simp at h
  | none =>
    rw [en_none (by rw [e]; rfl)] at h ⊢
    simp only at h ⊢
    have hm := (vSort_perm _).mem_iff.1 (rz_mem hG y i)
    rcases List.mem_cons.1 hm with hp | hp
    · rw [hp]; exact ⟨rfl, rfl⟩
    · obtain ⟨p, _, hq⟩ := List.mem_filterMap.1 hp
      have := (feaC_at hq).1
      omega
/-- A season is known by its name. -/
theorem sea_uniq {C : Cat} (hG : C.Good) {y d : Int} {s : Sea} (hs : s ∈ C.seas) (h : (vSea C y d).id = s.id) : vSea C y d = s := by
  have h1 := (List.nodup_append.1 hG.ids).1
  have hm : vSea C y d ∈ C.seas := List.mem_of_getElem? (find_idx (y := y) (d := d) hG).2.2
  obtain ⟨i, hi, ei⟩ := List.getElem_of_mem hm
  obtain ⟨k, hk, ek⟩ := List.getElem_of_mem hs
  have : i = k := by
    refine (List.getElem_inj (h₀ := by simpa using hi) (h₁ := by simpa using hk) h1).1 ?_
    rw [List.getElem_map, List.getElem_map, ei, ek, h]
  subst this
  rw [← ei, ek]
/-- The index of Easter. -/
theorem eas_idx {y : Int} (y1 : 1583 ≤ y) (y2 : y ≤ 1000000000) : ∃ e : Nat, vFirst y + e = vEas y ∧ e < vDays y := by
  have h := eas_bd (y := y)
  have := lp01 (vLeap y)
  have := vDays_in y
  exact ⟨(vEas y - vFirst y).toNat, by omega, by omega⟩
theorem date_ne {y : Int} {i e : Nat} (hi : i < vDays y) (he : e < vDays y) (h : i ≠ e) : ¬ (vYear (vFirst y + i) = vYear (vFirst y + e) ∧ mMon (vFirst y + i) = mMon (vFirst y + e) ∧ mDay (vFirst y + i) = mDay (vFirst y + e)) := by
  have n := vDays_next y
  rcases Nat.lt_or_gt_of_ne h with q | q
  · have := date_lt (y := y) (a := vFirst y + i) (b := vFirst y + e) (by omega) (by omega) (by omega)
    omega
  · have := date_lt (y := y) (a := vFirst y + e) (b := vFirst y + i) (by omega) (by omega) (by omega)
    omega
theorem Blk.c14 {W : World} {g : Nat} {t : TypeId} {v0 v1 v2 v3 v4 v5 v6 v7 v8 v9 v10 v11 v12 v13 : Value} (h : Blk W g #[v0, v1, v2, v3, v4, v5, v6, v7, v8, v9, v10, v11, v12, v13] t) : (W.cell? ⟨g, 0, none⟩ = some v0 ∧ W.cell? ⟨g, 1, none⟩ = some v1 ∧ W.cell? ⟨g, 2, none⟩ = some v2 ∧ W.cell? ⟨g, 3, none⟩ = some v3 ∧ W.cell? ⟨g, 4, none⟩ = some v4 ∧ W.cell? ⟨g, 5, none⟩ = some v5 ∧ W.cell? ⟨g, 6, none⟩ = some v6 ∧ W.cell? ⟨g, 7, none⟩ = some v7 ∧ W.cell? ⟨g, 8, none⟩ = some v8 ∧ W.cell? ⟨g, 9, none⟩ = some v9 ∧ W.cell? ⟨g, 10, none⟩ = some v10 ∧ W.cell? ⟨g, 11, none⟩ = some v11 ∧ W.cell? ⟨g, 12, none⟩ = some v12 ∧ W.cell? ⟨g, 13, none⟩ = some v13) ∧ g < W.heap.size :=
  ⟨⟨h.cell 0, h.cell 1, h.cell 2, h.cell 3, h.cell 4, h.cell 5, h.cell 6, h.cell 7, h.cell 8, h.cell 9, h.cell 10, h.cell 11, h.cell 12, h.cell 13⟩, h.lt⟩
theorem bne_yes {a b : ByteArray} (h : a = b) : (a.toList != b.toList) = false := by simp [bne, beq_yes h]
theorem bne_no {a b : ByteArray} (h : ¬ a = b) : (a.toList != b.toList) = true := by simp only [bne, beq_no h]; rfl
theorem SnB.alloc {w W : World} {C : Cat} {A1 : Option Addr} {n1 c1 : Nat} {A2 : Option Addr} {n2 c2 : Nat} {y : Int} {l : List Mv} {kb db : Nat} {en : Value} {us : List (Value × Value)} {dc : Array Value} (h : SnB w W C A1 n1 c1 A2 n2 c2 y l kb db en us dc) (o : Obj) : SnB w (W.alloc o) C A1 n1 c1 A2 n2 c2 y l kb db en us dc := h.below ((Below.refl _ _).alloc (Nat.le_refl _) _)
set_option maxRecDepth 20000 in
set_option maxHeartbeats 1000000 in
theorem seasons_w (C : Cat) (A1 : Option Addr) (n1 c1 : Nat) (A2 : Option Addr) (n2 c2 : Nat) (y : Int) (w : World) (ht : Hid (Tabs w)) (hp : Hid (PowIn w)) (hI : Hid (CatIn w C A1 n1 c1 A2 n2 c2)) :
    Calls Tryz.prog 6 #[.agg #[.int .i64 C.free, .slice A1 n1 c1, .slice A2 n2 c2], .int .i64 y] w fun e w' => e = .returned (.bool true) ∧ Below w.heap.size w w' := by
  have HR := Lib.hid (RgB.new w C A1 n1 c1 A2 n2 c2)
  by_cases hr : RightP C ∧ vInG y = true
  · obtain ⟨hr1, hr2⟩ := hr
    have PR := Lib.hid (pB_t hr1)
    have PG := Lib.hid hr2
    have HG := Lib.hid hr1.1
    obtain ⟨y1, y2⟩ := vInG_iff.1 hr2
    clear hr1 hr2
    go_enter Tryz.func6, Tryz.ntmps6
    go_upto_region 3 with (first | (go_at_call 7; with_reducible refine (awake_c _ (Lib.hid (ht.out.below HR.out.bel)) (Lib.hid (hp.out.below HR.out.bel))).mono ?_; rintro e w1 ⟨rfl, hb1⟩; replace HR := Lib.hid (HR.out.below hb1); clear hb1; obtain ⟨⟨x0, x1, x2⟩, _⟩ := HR.out.box.c3; have xl := HR.out.box.lt) | (go_at_call 8; with_reducible refine (right_c C A1 n1 c1 A2 n2 c2 _ (Lib.hid (hI.out.below HR.out.bel))).mono ?_; rintro e w2 ⟨rfl, hb2⟩; rw [PR.out]; clear x0 x1 x2 xl; replace HR := Lib.hid (HR.out.below hb2); clear hb2) | (go_at_call 9; with_reducible refine (ringreg_c _ _).mono ?_; rintro e w3 ⟨rfl, rfl⟩; rw [PG.out]))
    obtain ⟨⟨x0, x1, x2⟩, _⟩ := HR.out.box.c3
    have xl := HR.out.box.lt
    go_wp2_with fail
    refine (build_c C A1 n1 c1 A2 n2 c2 y _ (Lib.hid (ht.out.below HR.out.bel)) (Lib.hid (hI.out.below HR.out.bel)) HG y1 y2).mono ?_
    rintro e w3 ⟨(⟨h1, rfl⟩ | ⟨l, en, us, h1, rfl, h3⟩), hb3⟩
    · have HR3 := Lib.hid (HR.out.below hb3)
      clear hb3 h1 x0 x1 x2 xl HR
      go_wp2_with fail
      go_ret
      exact ⟨rfl, HR3.out.bel.alloc HR3.out.bel.size _⟩
    · obtain ⟨ea, em, ec, rfl⟩ := h3.out.named
      have HM := Lib.hid h1
      have HS3 := Lib.hid ((HR.out.below hb3).alloc (.cells #[.int .i64 y, .slice ea em ec] 31))
      have HE3 := Lib.hid ((h3.less HR.out.bel.size).below ((Below.refl _ _).alloc (Nat.le_refl _) (.cells #[.int .i64 y, .slice ea em ec] 31)))
      have HK3 := Lib.hid (Blk.new w3 #[.int .i64 y, .slice ea em ec] 31)
      clear hb3 h1 h3 x0 x1 x2 xl HR
      go_upto_region 6 with fail
      obtain ⟨kb, hkb⟩ : ∃ k, w3.heap.size = k := ⟨_, rfl⟩
      rw [hkb] at HK3 ⊢
      clear hkb
      generalize w3.alloc (.cells #[.int .i64 y, .slice ea em ec] 31) = W3 at *
      go_upto_region 7 with (first | (go_at_call 18; with_reducible refine (redate_c y _ y1 y2).mono ?_; rintro e w4 ⟨rfl, hb4⟩; have HX := Lib.hid (SnB.mk (below_then HS3.out.bel HS3.out.bel.size hb4 |>.alloc (below_then HS3.out.bel HS3.out.bel.size hb4).size (.cells (dC (vYear (vEas y)) (mMon (vEas y)) (mDay (vEas y))) 39)) (Blk.alloc (Blk.below HS3.out.box hb4) _) (Blk.alloc (Blk.below HK3.out hb4) _) (Blk.new w4 (dC (vYear (vEas y)) (mMon (vEas y)) (mDay (vEas y))) 39) (EnRes.below (EnRes.below HE3.out hb4) ((Below.refl _ _).alloc (Nat.le_refl _) _))); clear hb4))
      obtain ⟨db, hdb⟩ : ∃ k, w4.heap.size = k := ⟨_, rfl⟩
      rw [hdb] at HX ⊢
      clear hdb HS3 HE3 HK3
      obtain ⟨ge, ce, he⟩ := HX.out.en.named2 (by have := vDays_in y; omega)
      obtain ⟨e, e1, e2⟩ := eas_idx y1 y2
      have DN := Lib.hid (fun i hi hne => @date_ne y i e hi e2 hne)
      have E1 := Lib.hid e1
      have E7 := Lib.hid (eas_mod y).1
      obtain ⟨N1, N2⟩ := vDays_in y
      generalize hN : vDays y = N at *
      have HN := Lib.hid hN
      cases he
      clear hN e1
      generalize w4.alloc (.cells (dC (vYear (vEas y)) (mMon (vEas y)) (mDay (vEas y))) 39) = W4 at *
      clear HM
      go_wp2_with fail
      go_loopw [8, 9] (fun b i wr => ∃ k : Nat, k ≤ em ∧ b = .bool (decide (e < k)) ∧ i = .int .i64 k ∧ Hid (SnB w wr C A1 n1 c1 A2 n2 c2 y l kb db (.slice (some ⟨ge, 0, none⟩) em ec) us (dC (vYear (vEas y)) (mMon (vEas y)) (mDay (vEas y))))) (fun _ i _ => (em - intOf i).toNat)
      case atStart => exact ⟨0, by omega, by simp, rfl, HX⟩
      case round =>
        clear HX
        obtain ⟨k, k1, rfl, rfl, HX⟩ := hrel
        obtain ⟨⟨z0, z1⟩, _⟩ := HX.out.kal.c2
        have zl := HX.out.kal.lt
        by_cases hk : k < em
        · obtain ⟨a, n, c, a', n', c', H2, gl, R⟩ := HX.out.en.row (j := k) (by rw [HN.out]; exact hk)
          have hk' : (k : Int) < em := by omega
          obtain ⟨r0, r1, r2, r3, r4, r5, r6, r7, r8, r9, r10, r11, r12, r13⟩ := R
          clear H2
          have SR := Lib.hid (fun h => sea_rank HG.out (l := l) (i := k) (y := y) h)
          have SU := Lib.hid (fun s hs h => @sea_uniq C HG.out y (vFirst y + k) s hs h)
          have DT := Lib.hid (show vYear (vFirst y + k) = vYear (vFirst y + k) from rfl)
          have DQ := Lib.hid (fun hne : k ≠ e => dEq_no (show ¬ (vYear (vFirst y + k) = vYear (vEas y) ∧ mMon (vFirst y + k) = mMon (vEas y) ∧ mDay (vFirst y + k) = mDay (vEas y)) by rw [← E1.out]; exact DN.out k hk hne))
          have DY := Lib.hid (fun he : k = e => show dEq (vYear (vFirst y + k)) (mMon (vFirst y + k)) (mDay (vFirst y + k)) (vYear (vEas y)) (mMon (vEas y)) (mDay (vEas y)) = true from dEq_iff.2 (by rw [he, E1.out]; exact ⟨rfl, rfl, rfl⟩))
          have WD := Lib.hid (fun he : k = e => show (vFirst y + k) % 7 = 0 by rw [he, E1.out]; exact E7.out)
          have HV := Lib.hid (date_eql (vYear (vFirst y + k)) (mMon (vFirst y + k)) (mDay (vFirst y + k)) (vYear (vEas y)) (mMon (vEas y)) (mDay (vEas y)))
          go_upto_region 12 with fail
          clear r0 r1 r2 r3 r4 r5 r6 r7 r8 r9 r10 r11 r12 r13 z0 z1 zl gl DT
          generalize vYear (vFirst y + k) = X0 at *
          generalize mMon (vFirst y + k) = X1 at *
          generalize mDay (vFirst y + k) = X2 at *
          generalize (vFirst y + k) % 7 = X3 at *
          generalize vSea C y (vFirst y + k) = XS at *
          generalize vWeek C y (vFirst y + k) = X5 at *
          generalize vEnI C y l k = E at *
          obtain ⟨row, hrow⟩ : ∃ row : Array Value, row = #[.int .i64 X0, .int .i64 X1, .int .i64 X2, .int .i64 X3, .string XS.id, .int .i64 X5, .int .i64 E.kind, .string E.prin, .int .i64 E.rank, .int .i64 E.fy, .int .i64 E.fm, .int .i64 E.fd, .slice a n c, .slice a' n' c'] := ⟨_, rfl⟩
          have HXa := Lib.hid (HX.out.alloc (.cells row 42))
          have HXr := Lib.hid (Blk.new wr row 42)
          have HW := Lib.hid hrow
          rw [← hrow]
          obtain ⟨xb, hxb⟩ : ∃ k, wr.heap.size = k := ⟨_, rfl⟩
          rw [hxb] at HXr ⊢
          clear hxb hrow HX
          generalize wr.alloc (.cells row 42) = wx at *
          have HXq := Lib.hid (show Blk wx xb #[.int .i64 X0, .int .i64 X1, .int .i64 X2, .int .i64 X3, .string XS.id, .int .i64 X5, .int .i64 E.kind, .string E.prin, .int .i64 E.rank, .int .i64 E.fy, .int .i64 E.fm, .int .i64 E.fd, .slice a n c, .slice a' n' c'] 42 by rw [← HW.out]; exact HXr.out)
          clear HXr HW
          obtain ⟨⟨r0, r1, r2, r3, r4, r5, r6, r7, r8, r9, r10, r11, r12, r13⟩, rl⟩ := HXq.out.c14
          obtain ⟨⟨d0, d1, d2⟩, _⟩ := HXa.out.dat.c3
          have dl := HXa.out.dat.lt
          go_cut [53] (fun v53 wy => v53 = .bool (dEq X0 X1 X2 (vYear (vEas y)) (mMon (vEas y)) (mDay (vEas y))) ∧ wy = wx)
          case first =>
            have hv := HV.out
            go_wp2_with fail
            go_meet
            exact ⟨rfl, rfl⟩
          case rest =>
          obtain ⟨rfl, rfl⟩ := hcut
          go_step
          go_cut [8] (fun v8 wy => v8 = .bool (decide (e < k + 1)) ∧ Hid (SnB w wy C A1 n1 c1 A2 n2 c2 y l kb db (.slice (some ⟨ge, 0, none⟩) em ec) us (dC (vYear (vEas y)) (mMon (vEas y)) (mDay (vEas y)))) ∧ Hid (Blk wy xb #[.int .i64 X0, .int .i64 X1, .int .i64 X2, .int .i64 X3, .string XS.id, .int .i64 X5, .int .i64 E.kind, .string E.prin, .int .i64 E.rank, .int .i64 E.fy, .int .i64 E.fm, .int .i64 E.fd, .slice a n c, .slice a' n' c'] 42))
          case first =>
            by_cases hke : k = e
            · rw [DY.out hke]
              have w7 : (X3 == 0) = true := by simpa using WD.out hke
              have NXH := Lib.hid (show decide (e < k + 1) = true by simp; omega)
              clear hke
              go_wp2_with fail
              go_meet
              exact ⟨by rw [NXH.out], HXa, HXq⟩
            · rw [DQ.out hke]
              have NXH := Lib.hid (show decide (e < k + 1) = decide (e < k) by rw [decide_eq_decide]; omega)
              clear hke
              go_wp2_with fail
              go_meet
              exact ⟨by rw [NXH.out], HXa, HXq⟩
          case rest =>
            obtain ⟨rfl, HXa, HXq⟩ := hcut
            clear r0 r1 r2 r3 r4 r5 r6 r7 r8 r9 r10 r11 r12 r13 rl d0 d1 d2 dl HV DY DQ WD DN E1 E7
            have n8 : n1 ≤ 8 := by have := HG.out.n2; have := hI.out.e1; omega
            go_wp2_with fail
            go_loopw [11] (fun j wr2 => ∃ m : Nat, m ≤ n1 ∧ j = .int .i64 m ∧ Hid (SnB w wr2 C A1 n1 c1 A2 n2 c2 y l kb db (.slice (some ⟨ge, 0, none⟩) em ec) us (dC (vYear (vEas y)) (mMon (vEas y)) (mDay (vEas y)))) ∧ Hid (Blk wr2 xb #[.int .i64 X0, .int .i64 X1, .int .i64 X2, .int .i64 X3, .string XS.id, .int .i64 X5, .int .i64 E.kind, .string E.prin, .int .i64 E.rank, .int .i64 E.fy, .int .i64 E.fm, .int .i64 E.fd, .slice a n c, .slice a' n' c'] 42)) (fun j _ => (n1 - intOf j).toNat)
            case atStart => exact ⟨0, by omega, rfl, HXa, HXq⟩
            case round =>
              clear HXa HXq
              obtain ⟨m, m1, rfl, HXa, HXq⟩ := hrel
              obtain ⟨⟨x0, x1, x2⟩, _⟩ := HXa.out.box.c3
              have xl := HXa.out.box.lt
              by_cases hm : m < n1
              · obtain ⟨s, hs⟩ : ∃ s, C.seas[m]? = some s := ⟨_, List.getElem?_eq_getElem (by have := hI.out.e1; omega)⟩
                have hsm := List.mem_of_getElem? hs
                obtain ⟨ad, ha, hr⟩ := (hI.out.sea.below HXa.out.bel) m s.cells (by rw [List.getElem?_map, hs]; rfl)
                obtain ⟨a0, a1, a2, a3, a4, a5, a6, a7, a8⟩ := RowIs.nine hr
                have plt := hr.lt rfl
                have HN2 := Lib.hid (HXa.out.alloc (.cells s.cells 67))
                have HQ2 := Lib.hid (HXq.out.alloc (.cells s.cells 67))
                obtain ⟨⟨r0, r1, r2, r3, r4, r5, r6, r7, r8, r9, r10, r11, r12, r13⟩, rl⟩ := HXq.out.c14
                have hm' : (m : Int) < n1 := by omega
                subst ha
                clear hr hs
                by_cases q1 : XS.id = s.id
                · by_cases q2 : E.kind = 1
                  · obtain ⟨p1, p2⟩ := SR.out q2
                    have q3 := SU.out s hsm q1
                    subst q3
                    have b3 : (E.kind != 1) = false := by simpa using q2
                    by_cases q4 : X3 = 0
                    · have b4 : (X3 == 0) = true := by simpa using q4
                      have b5 : (X3 != 0) = false := by simpa using q4
                      rw [if_pos q4] at p2
                      clear q1 q2 hsm
                      go_wp2_with fail
                      exact ⟨⟨m + 1, by omega, by go_num, HN2, HQ2⟩, by simp [intOf]; omega⟩
                    · have b4 : (X3 == 0) = false := by simpa using q4
                      have b5 : (X3 != 0) = true := by simpa using q4
                      rw [if_neg q4] at p2
                      clear q1 q2 hsm
                      go_wp2_with fail
                      exact ⟨⟨m + 1, by omega, by go_num, HN2, HQ2⟩, by simp [intOf]; omega⟩
                  · have b3 : (E.kind != 1) = true := by simpa using q2
                    clear q2 hsm
                    go_wp2_with fail
                    exact ⟨⟨m + 1, by omega, by go_num, HN2, HQ2⟩, by simp [intOf]; omega⟩
                · have b1 : ¬ XS.id.toList = s.id.toList := by simpa using bne_no q1
                  clear q1 hsm
                  go_wp2_with fail
                  exact ⟨⟨m + 1, by omega, by go_num, HN2, HQ2⟩, by simp [intOf]; omega⟩
              · obtain rfl : n1 = m := by omega
                go_wp2_with fail
                exact ⟨⟨k + 1, by omega, by rfl, by go_num, HXa⟩, by simp [intOf]; omega⟩
        · obtain rfl : em = k := by omega
          go_wp2_with fail
          go_ret
          exact ⟨ret_bool (by simpa using e2), HX.out.bel⟩
  · skip
    have HB := Lib.hid HR.out.bel
    by_cases h1 : RightP C
    · have PR := Lib.hid (pB_t h1)
      have PG := Lib.hid (show vInG y = false by cases e : vInG y with
        | false => rfl
        | true => exact absurd ⟨h1, e⟩ hr)
      clear h1 hr
      go_enter Tryz.func6, Tryz.ntmps6
      go_wp2_with (first | (go_at_call 7; with_reducible refine (awake_c _ (Lib.hid (ht.out.below HB.out)) (Lib.hid (hp.out.below HB.out))).mono ?_; rintro e w1 ⟨rfl, hb1⟩; replace HR := Lib.hid (HR.out.below hb1); replace HB := Lib.hid HR.out.bel; clear hb1; (try clear x0 x1 x2 xl xz); obtain ⟨⟨x0, x1, x2⟩, xz⟩ := HR.out.box.c3; have xl := HR.out.box.lt) | (go_at_call 8; with_reducible refine (right_c C A1 n1 c1 A2 n2 c2 _ (Lib.hid (hI.out.below HB.out))).mono ?_; rintro e w2 ⟨rfl, hb2⟩; rw [PR.out]; clear x0 x1 x2 xl xz; replace HR := Lib.hid (HR.out.below hb2); replace HB := Lib.hid HR.out.bel; clear hb2) | (go_at_call 9; with_reducible refine (ringreg_c _ _).mono ?_; rintro e w3 ⟨rfl, rfl⟩; rw [PG.out]))
      go_ret
      exact ⟨rfl, HB.out⟩
    · have PR := Lib.hid (pB_f h1)
      clear h1 hr
      go_enter Tryz.func6, Tryz.ntmps6
      go_wp2_with (first | (go_at_call 7; with_reducible refine (awake_c _ (Lib.hid (ht.out.below HB.out)) (Lib.hid (hp.out.below HB.out))).mono ?_; rintro e w1 ⟨rfl, hb1⟩; replace HR := Lib.hid (HR.out.below hb1); replace HB := Lib.hid HR.out.bel; clear hb1; (try clear x0 x1 x2 xl xz); obtain ⟨⟨x0, x1, x2⟩, xz⟩ := HR.out.box.c3; have xl := HR.out.box.lt) | (go_at_call 8; with_reducible refine (right_c C A1 n1 c1 A2 n2 c2 _ (Lib.hid (hI.out.below HB.out))).mono ?_; rintro e w2 ⟨rfl, hb2⟩; rw [PR.out]; clear x0 x1 x2 xl xz; replace HR := Lib.hid (HR.out.below hb2); replace HB := Lib.hid HR.out.bel; clear hb2))
      go_ret
      exact ⟨rfl, HB.out⟩
end Go.Proofs.YtdgaflcnigljlaaGreatDoor
