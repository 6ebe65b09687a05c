/-
  Contracts and plain facts for the laws on the whole program: the parts below say each what they are. No further condition.
-/
import Derived.Test.YtdgaflcnigljlaaGreatDoorS24
set_option linter.unusedSimpArgs false
/-
  Contracts of package ordo: the entries assembled. At builders of calendars of small well-formed catalogues, years from 1583 to 1000000000. No further condition.
-/
namespace Go.Proofs.YtdgaflcnigljlaaGreatDoor
open Go.RowKit Go.Proofs Go.MapKept Go.Proofs.YtdgaflcnigljlaaGreatDoorW.PrintWords
set_option linter.unusedVariables false
@[reducible] def enRow (C : Cat) (y : Int) (l : List Mv) (i : Nat) (u : Value × Value) : Array Value := eC (vYear (vFirst y + i)) (mMon (vFirst y + i)) (mDay (vFirst y + i)) ((vFirst y + i) % 7) (vSea C y (vFirst y + i)).id (vWeek C y (vFirst y + i)) (vEnI C y l i).kind (vEnI C y l i).prin (vEnI C y l i).rank (vEnI C y l i).fy (vEnI C y l i).fm (vEnI C y l i).fd u.1 u.2
def enRows (C : Cat) (y : Int) (l : List Mv) (us : List (Value × Value)) : List (Array Value) := us.mapIdx fun i u => enRow C y l i u
theorem enRows_len (C : Cat) (y : Int) (l : List Mv) (us : List (Value × Value)) : (enRows C y l us).length = us.length := by simp [enRows]
theorem enRows_snoc (C : Cat) (y : Int) (l : List Mv) (us : List (Value × Value)) (u : Value × Value) : enRows C y l (us ++ [u]) = enRows C y l us ++ [enRow C y l us.length u] := by
  unfold enRows; rw [List.mapIdx_append]; simp
theorem enRows_at {C : Cat} {y : Int} {l : List Mv} {us : List (Value × Value)} {k : Nat} {u : Value × Value} (h : us[k]? = some u) : (enRows C y l us)[k]? = some (enRow C y l k u) := by
  unfold enRows; rw [List.getElem?_mapIdx, h]; rfl
structure Two (W : World) (base : Nat) (C : Cat) (E : EntI) (u : Value × Value) : Prop where
  oc : Own W base 9 1 u.1 (strRows (vIds C E.com))
  oo : Own W base 9 1 u.2 (strRows (vIds C E.omi))
structure EnRes (W : World) (base : Nat) (C : Cat) (y : Int) (l : List Mv) (k : Nat) (v : Value) (us : List (Value × Value)) : Prop where
  out : Own W base 42 14 v (enRows C y l us)
  len : us.length = k
  ins : ∀ (i : Nat) (u : Value × Value), us[i]? = some u → Two W base C (vEnI C y l i) u
section
variable {W W2 : World} {base : Nat} {C : Cat} {y : Int} {l : List Mv} {k : Nat} {v v1 : Value} {us : List (Value × Value)} {E : EntI} {u : Value × Value}
theorem Two.below (h : Two W base C E u) (hb : Below W.heap.size W W2) : Two W2 base C E u := ⟨h.oc.below hb, h.oo.below hb⟩
theorem Two.less {b : Nat} (h : Two W base C E u) (hb : b ≤ base) : Two W b C E u := ⟨h.oc.less hb, h.oo.less hb⟩
theorem Two.own {b e sz : Nat} {v : Value} {rows : List (Array Value)} (h : Two W base C E u) (hv : Own W b e sz v rows) (hg : W.grownBy W2 v.ownBlock) (ht : 9 ≠ e) : Two W2 base C E u := ⟨h.oc.kept hg (h.oc.apart_ty hv ht), h.oo.kept hg (h.oo.apart_ty hv ht)⟩
theorem Two.kept {g : Nat} {cs : Array Value} {t : TypeId} (h : Two W base C E u) (hg : W.grownBy W2 (some g)) (hb : Blk W g cs t) (ht : 9 ≠ t) : Two W2 base C E u := ⟨h.oc.kept hg (.inr (h.oc.ne_blk hb ht)), h.oo.kept hg (.inr (h.oo.ne_blk hb ht))⟩
theorem Two.form (h : Two W base C E u) : ∃ a n c a1 n1 c1, u = (.slice a n c, .slice a1 n1 c1) := by
  obtain ⟨x, y⟩ := u
  obtain ⟨_, _, _, e1⟩ := h.oc.named
  obtain ⟨_, _, _, e2⟩ := h.oo.named
  simp only at e1 e2
  subst e1 e2
  exact ⟨_, _, _, _, _, _, rfl⟩
theorem EnRes.below (h : EnRes W base C y l k v us) (hb : Below W.heap.size W W2) : EnRes W2 base C y l k v us := ⟨h.out.below hb, h.len, fun i u hu => (h.ins i u hu).below hb⟩
theorem EnRes.less {b : Nat} (h : EnRes W base C y l k v us) (hb : b ≤ base) : EnRes W b C y l k v us := ⟨h.out.less hb, h.len, fun i u hu => (h.ins i u hu).less hb⟩
theorem EnRes.kept {g : Nat} {cs : Array Value} {t : TypeId} (h : EnRes W base C y l k v us) (hg : W.grownBy W2 (some g)) (hb : Blk W g cs t) (h1 : 9 ≠ t) (h2 : 42 ≠ t) : EnRes W2 base C y l k v us := ⟨h.out.kept hg (.inr (h.out.ne_blk hb h2)), h.len, fun i u hu => (h.ins i u hu).kept hg hb h1⟩
theorem EnRes.nil (W : World) (base : Nat) (C : Cat) (y : Int) (l : List Mv) : EnRes W base C y l 0 (.slice none 0 0) [] := ⟨Own.nil _ _ _ _, rfl, fun i u h => by cases h⟩
theorem EnRes.app (h : EnRes W base C y l k v us) (hu : Two W base C (vEnI C y l k) u) (ho : Own W2 base 42 14 v1 (enRows C y l us ++ [enRow C y l k u])) (hg : W.grownBy W2 v.ownBlock) : EnRes W2 base C y l (k + 1) v1 (us ++ [u]) := by
  refine ⟨by rw [enRows_snoc, h.len]; exact ho, by simp [h.len], fun i x hx => ?_⟩
  rcases Nat.lt_or_ge i us.length with hi | hi
  · rw [List.getElem?_append_left hi] at hx
    exact (h.ins i x hx).own h.out hg (by decide)
  · rw [List.getElem?_append_right hi] at hx
    have : i = k := by
      have := (List.getElem?_eq_some_iff.1 hx).1
      simp at this; have := h.len; omega
    subst this
    rw [h.len, Nat.sub_self] at hx
    cases hx
    exact hu.own h.out hg (by decide)
theorem en_one {b : Nat} {i : Nat} (h : Two W b C E u) : ∀ x ∈ (enRow C y l i u).toList, x.oneCell' = true := fun x hx => by
  obtain ⟨a, n, c, a1, n1, c1, rfl⟩ := h.form
  simp only [enRow, eC, List.mem_cons, List.not_mem_nil, or_false] at hx
  rcases hx with rfl | rfl | rfl | rfl | rfl | rfl | rfl | rfl | rfl | rfl | rfl | rfl | rfl | rfl <;> rfl
end
theorem info42 : (Tryz.prog.info? 42).map (fun i => (i.zero, i.size, i.bytes)) = some (some (.agg eZ), 14, 160) := by kernel_rfl
structure AmBox (w W : World) (g : Nat) (bc : Array Value) (b0 : Nat) (C : Cat) (y : Int) (N : Nat) (v mv : Value) (vs : List (Value × Value × Value)) (l : List Mv) (k : Nat) (en : Value) (us : List (Value × Value)) : Prop where
  bel : Below g w W
  sz : w.heap.size ≤ W.heap.size
  bd : Blk W g bc 80
  dy : DyRes W b0 C y N v vs
  mo : Own W b0 153 3 mv (mvRows l)
  en : EnRes W w.heap.size C y l k en us
  gr : w.grownBy W (some g)
section
variable {w W W2 : World} {g : Nat} {bc : Array Value} {b0 : Nat} {C : Cat} {y : Int} {N : Nat} {v mv : Value} {vs : List (Value × Value × Value)} {l : List Mv} {k : Nat} {en v1 : Value} {us : List (Value × Value)}
theorem AmBox.below (h : AmBox w W g bc b0 C y N v mv vs l k en us) (hb : Below W.heap.size W W2) : AmBox w W2 g bc b0 C y N v mv vs l k en us :=
  ⟨below_then h.bel (Nat.le_of_lt h.bd.lt) hb, Nat.le_trans h.sz hb.size, h.bd.below hb, h.dy.below hb, h.mo.below hb, h.en.below hb, gr_low h.gr (hb.mono h.sz)⟩
theorem AmBox.app (h : AmBox w W g bc b0 C y N v mv vs l k en us) (hgl : g < w.heap.size) {b : Nat} {u : Value × Value} (hu : Two W b C (vEnI C y l k) u) (hb : w.heap.size ≤ b) (ho : Own W2 w.heap.size 42 14 v1 (enRows C y l us ++ [enRow C y l k u])) (hbe : Below w.heap.size W W2) (hg : W.grownBy W2 en.ownBlock) :
    AmBox w W2 g bc b0 C y N v mv vs l (k + 1) v1 (us ++ [u]) :=
  ⟨h.bel.trans (hbe.mono (Nat.le_of_lt hgl)), Nat.le_trans h.sz hbe.size, h.bd.grown hg (fun e => by have := (h.en.out.block g e).1; omega), h.dy.far h.en.out (by decide) (by decide) hg, h.mo.kept hg (h.mo.apart_ty h.en.out (by decide)), h.en.app (hu.less hb) ho hg, gr_low h.gr hbe⟩
theorem AmBox.put (h : AmBox w W g bc b0 C y N v mv vs l k en us) (j : Nat) (x : Value) (bc2 : Array Value) (he : bc.setIfInBounds j x = bc2) : AmBox w (W.setCell ⟨g, j, none⟩ x) g bc2 b0 C y N v mv vs l k en us :=
  ⟨h.bel.setCell (Nat.le_refl _) _, Nat.le_trans h.sz (gs_set W g j x).size, h.bd.put j _ he, h.dy.kept (gs_set _ _ _ _) h.bd (by decide) (by decide), h.mo.kept (gs_set _ _ _ _) (.inr (h.mo.ne_blk h.bd (by decide))), h.en.kept (gs_set _ _ _ _) h.bd (by decide) (by decide), h.gr.trans (gs_set _ _ _ _)⟩
end
set_option maxRecDepth 20000 in
set_option maxHeartbeats 1000000 in
theorem oassemble_c (C : Cat) (A1 : Option Addr) (n1 c1 : Nat) (A2 : Option Addr) (n2 c2 : Nat) (y : Int) (g b0 N : Nat) (v mv : Value) (vs : List (Value × Value × Value)) (l : List Mv) (w : World) (hW : Hid (∀ W, Below g w W → Tabs W ∧ CatIn W C A1 n1 c1 A2 n2 c2)) (hb : Hid (Blk w g (bdCells C A1 n1 c1 A2 n2 c2 y (vFirst y) v mv 0 (.slice none 0 0)) 80)) (hG : Hid C.Good) (y1 : 1583 ≤ y) (y2 : y ≤ 1000000000)
    (hD : Hid (DyRes w b0 C y N v vs)) (hM : Hid (Own w b0 153 3 mv (mvRows l))) (hl : Hid (l.length ≤ 100000 ∧ ∀ m ∈ l, 0 ≤ m.feast ∧ m.feast < C.feas.length ∧ 0 ≤ m.src ∧ m.src < N)) (hN : Hid (N = vDays y)) (hN1 : 1 ≤ N ∧ N ≤ 400) :
    Calls Tryz.prog 32 #[.pointer (some ⟨g, 0, none⟩)] w fun e w' => ∃ en us, e = .returned (.int .i64 0) ∧ (Blk w' g (bdCells C A1 n1 c1 A2 n2 c2 y (vFirst y) v mv y en) 80 ∧ EnRes w' w.heap.size C y l N en us) ∧ w.grownBy w' (some g) := by
  have gl := hb.out.lt
  have HB : Hid (AmBox w w g (bdCells C A1 n1 c1 A2 n2 c2 y (vFirst y) v mv 0 (.slice none 0 0)) b0 C y N v mv vs l 0 (.slice none 0 0) []) := Lib.hid ⟨Below.refl _ _, Nat.le_refl _, hb.out, hD.out, hM.out, EnRes.nil _ _ _ _ _, World.grownBy.refl _ _⟩
  obtain ⟨gd, cd, rfl⟩ : ∃ gd cd, v = .slice (some ⟨gd, 0, none⟩) N cd := by
    obtain ⟨g', cap, he, _⟩ := hD.out.out.cell (k := 0) (List.getElem?_eq_getElem (by rw [rzRows_len, hD.out.len]; exact hN1.1))
    refine ⟨g', cap, ?_⟩
    rw [he, rzRows_len, hD.out.len]
  have N1 := hN1.1
  have N2 := hN1.2
  have x3 : w.cell? ⟨g, 3, none⟩ = some (.int .i64 y) := hb.out.cell 3
  have x5 : w.cell? ⟨g, 5, none⟩ = some (.slice (some ⟨gd, 0, none⟩) N cd) := hb.out.cell 5
  have x7 : w.cell? ⟨g, 7, none⟩ = some (.int .i64 0) := hb.out.cell 7
  have f7 := hb.out.frozen 7
  go_enter Tryz.func32, Tryz.ntmps32
  go_upto_region 2 with fail
  have HB2 := Lib.hid (HB.out.put 7 (.int .i64 y) (bdCells C A1 n1 c1 A2 n2 c2 y (vFirst y) (.slice (some ⟨gd, 0, none⟩) N cd) mv y (.slice none 0 0)) rfl)
  clear HB x3 x5 x7 f7
  generalize w.setCell ⟨g, 7, none⟩ (.int .i64 y) = W2 at *
  have x5 : W2.cell? ⟨g, 5, none⟩ = some (.slice (some ⟨gd, 0, none⟩) N cd) := HB2.out.bd.cell 5
  go_wp2_with fail
  go_loopw [17] (fun i wr => ∃ (k : Nat) (en : Value) (us : List (Value × Value)), k ≤ N ∧ i = .int .i64 k ∧ Hid (AmBox w wr g (bdCells C A1 n1 c1 A2 n2 c2 y (vFirst y) (.slice (some ⟨gd, 0, none⟩) N cd) mv y en) b0 C y N (.slice (some ⟨gd, 0, none⟩) N cd) mv vs l k en us)) (fun i _ => (N - intOf i).toNat)
  case atStart => exact ⟨0, _, _, by omega, rfl, HB2⟩
  case round =>
    clear HB2 x5
    obtain ⟨k, en, us, k1, rfl, HB⟩ := hrel
    by_cases hk : k < N
    · have hk' : (k : Int) < N := by omega
      go_upto_region 5 with fail
      have HD := Lib.hid (HB.out.below (Below.refl _ _).drew)
      have x8 : wr.cell? ⟨g, 8, none⟩ = some en := HB.out.bd.cell 8
      have xl := HB.out.bd.lt
      go_region_law (first | (go_simp; go_at_call 63; refine (entry_c C A1 n1 c1 A2 n2 c2 y y en g b0 N k _ mv vs l _ (Lib.hid HD.out.bd) (Lib.hid (hW.out _ HD.out.bel).1) (Lib.hid (hW.out _ HD.out.bel).2) hG y1 y2 (Lib.hid HD.out.dy) (Lib.hid HD.out.mo) hl hN hk).mono ?_; rintro e w5 ⟨u1, u2, rfl, ⟨o1, o2⟩, hb5⟩; have HD5 := Lib.hid (HD.out.below hb5); clear hb5; have y8 : w5.cell? ⟨g, 8, none⟩ = some en := HD5.out.bd.cell 8; have yl := HD5.out.bd.lt; have RO : Hid (∀ x ∈ (enRow C y l k (u1, u2)).toList, x.oneCell' = true) := Lib.hid (en_one (E := vEnI C y l k) ⟨o1, o2⟩); have SM : Hid (((enRows C y l us).length + 1) * 160 ≤ 140737488355328) := Lib.hid (by rw [enRows_len, HD5.out.en.len]; omega)) | (refine own_app_lies 29 42 rfl _ _ rfl Tryz.underlying29 info42 rfl (by decide) (by decide) en rfl (enRow C y l k (u1, u2)) rfl rfl RO.out HD5.out.en.out HD5.out.sz SM.out ?_; intro v6 w6 ho6 hb6 hg6; have HN := Lib.hid (HD5.out.app gl (u := (u1, u2)) ⟨o1, o2⟩ HB.out.sz ho6 hb6 hg6); obtain ⟨a6, m6, c6, rfl⟩ := ho6.named; have z8 : w6.cell? ⟨g, 8, none⟩ = some en := HN.out.bd.cell 8; have zf := HN.out.bd.frozen 8; clear ho6 hb6 hg6))
      all_goals
        go_wp2_with fail
        exact ⟨⟨k + 1, _, _, by omega, by go_num, Lib.hid (HN.out.put 8 _ _ rfl)⟩, by simp [intOf]; omega⟩
    · obtain rfl : k = N := by omega
      go_wp2_with fail
      go_ret
      exact ⟨en, us, rfl, ⟨HB.out.bd, HB.out.en⟩, HB.out.gr⟩
end Go.Proofs.YtdgaflcnigljlaaGreatDoor
/-
  Contract of package ordo: the calendar of a year. At small well-formed catalogues, years from 1583 to 1000000000. No further condition.
-/
namespace Go.Proofs.YtdgaflcnigljlaaGreatDoor
open Go.RowKit Go.Proofs Go.MapKept Go.Proofs.YtdgaflcnigljlaaGreatDoorW.PrintWords
set_option linter.unusedVariables false
def vMoves (C : Cat) (y : Int) : Option (List Mv) := vAsg (vFreeL C y (vDays y)) 0 [] (vImpL C y (vDays y))
theorem vAsg1_mem {free : List Bool} {day : Nat} {fs : List Int} {out o : List Mv} (h : vAsg1 free day out fs = some o) : ∀ m ∈ o, m ∈ out ∨ (m.feast ∈ fs ∧ m.src = day ∧ ∃ t : Nat, m.dst = t ∧ day + 1 ≤ t ∧ t < free.length) := by
  induction fs generalizing out with
  | nil => cases h; exact fun m hm => .inl hm
  | cons a fs ih =>
    simp only [vAsg1] at h
    cases e : vNext free out (free.length - (day + 1)) (day + 1) with
    | none => rw [e] at h; cases h
    | some t =>
      rw [e] at h
      obtain ⟨t1, t2, _⟩ := vNext_some e
      intro m hm
      rcases ih h m hm with hm | ⟨h1, h2⟩
      · rcases List.mem_append.1 hm with hm | hm
        · exact .inl hm
        · simp only [List.mem_singleton] at hm
          subst hm
          exact .inr ⟨.head _, rfl, t, rfl, t1, by omega⟩
      · exact .inr ⟨.tail _ h1, h2⟩
theorem vAsg_mem {free : List Bool} {L : List (List Int)} {day : Nat} {out o : List Mv} (h : vAsg free day out L = some o) : ∀ m ∈ o, m ∈ out ∨ ∃ k l, L[k]? = some l ∧ m.feast ∈ l ∧ m.src = ((day + k : Nat) : Int) ∧ ∃ t : Nat, m.dst = t ∧ day + k + 1 ≤ t ∧ t < free.length := by
  induction L generalizing day out with
  | nil => cases h; exact fun m hm => .inl hm
  | cons a L ih =>
    simp only [vAsg] at h
    cases e : vAsg1 free day out a with
    | none => rw [e] at h; cases h
    | some x =>
      rw [e] at h
      intro m hm
      rcases ih h m hm with hm | ⟨k, l, h1, h2, h3, t, h4, h5, h6⟩
      · rcases vAsg1_mem e m hm with hm | ⟨h1, h2, t, h3⟩
        · exact .inl hm
        · exact .inr ⟨0, a, rfl, h1, h2, t, h3.1, by omega, h3.2.2⟩
      · exact .inr ⟨k + 1, l, by simpa using h1, h2, by rw [h3]; congr 1; omega, t, h4, by omega, h6⟩
theorem moves_ok {C : Cat} (hG : C.Good) {y : Int} {l : List Mv} (h : vMoves C y = some l) : l.length ≤ 100000 ∧ ∀ m ∈ l, 0 ≤ m.feast ∧ m.feast < C.feas.length ∧ 0 ≤ m.src ∧ m.src < vDays y := by
  have hd : vDays y ≤ 366 := by have := lp01 (vLeap y); unfold vDays; omega
  refine ⟨?_, fun m hm => ?_⟩
  · have := vAsg_len h (b := 31) (fun x hx => by
      obtain ⟨i, _, rfl⟩ := List.mem_map.1 hx
      exact im_len hG y i)
    rw [vImpL_len] at this
    simp only [List.length_nil] at this
    omega
  · rcases vAsg_mem h m hm with hm | ⟨k, x, h1, h2, h3, _⟩
    · cases hm
    · have hk : k < vDays y := by rw [← vImpL_len C y (vDays y)]; exact (List.getElem?_eq_some_iff.1 h1).1
      rw [vImpL_at C y _ k hk] at h1
      cases h1
      obtain ⟨a, b⟩ := pol_ok (line_ok hG y k) 1 m.feast h2
      exact ⟨a, b, by omega, by omega⟩
@[reducible] def mFn (f g : Nat) : Value := .func (.func f) #[.pointer (some ⟨g, 0, none⟩)] #[]
structure BuBox (w W : World) (bc : Array Value) : Prop where
  bel : Below w.heap.size w W
  res : Blk W (w.heap.size + 1) #[.int .i64 0, .slice none 0 0] 31
  bd : Blk W (w.heap.size + 1 + 1) bc 80
  ar : Blk W (w.heap.size + 1 + 1 + 1) #[mFn 30 (w.heap.size + 1 + 1), mFn 31 (w.heap.size + 1 + 1), mFn 32 (w.heap.size + 1 + 1)] 81
theorem BuBox.next {w W W2 : World} {bc bc2 : Array Value} (h : BuBox w W bc) (hg : W.grownBy W2 (some (w.heap.size + 1 + 1))) (hb : Blk W2 (w.heap.size + 1 + 1) bc2 80) : BuBox w W2 bc2 :=
  ⟨h.bel.grown hg h.bel.size (fun k e => by cases e; omega), h.res.grown hg (by simp), hb, h.ar.grown hg (by simp)⟩
theorem BuBox.size {w W : World} {bc : Array Value} (h : BuBox w W bc) : w.heap.size + 1 + 1 + 1 + 1 ≤ W.heap.size := h.ar.lt
def BuSt (w W : World) (C : Cat) (A1 : Option Addr) (n1 c1 : Nat) (A2 : Option Addr) (n2 c2 : Nat) (y : Int) : Nat → Prop
  | 0 => BuBox w W (bdCells C A1 n1 c1 A2 n2 c2 y 0 (.slice none 0 0) (.slice none 0 0) 0 (.slice none 0 0))
  | 1 => ∃ v vs, BuBox w W (bdCells C A1 n1 c1 A2 n2 c2 y (vFirst y) v (.slice none 0 0) 0 (.slice none 0 0)) ∧ DyRes W (w.heap.size + 1 + 1 + 1 + 1) C y (vDays y) v vs
  | 2 => ∃ v vs l mv, vMoves C y = some l ∧ BuBox w W (bdCells C A1 n1 c1 A2 n2 c2 y (vFirst y) v mv 0 (.slice none 0 0)) ∧ DyRes W (w.heap.size + 1 + 1 + 1 + 1) C y (vDays y) v vs ∧ Own W (w.heap.size + 1 + 1 + 1 + 1) 153 3 mv (mvRows l)
  | _ => ∃ v mv en us l, vMoves C y = some l ∧ BuBox w W (bdCells C A1 n1 c1 A2 n2 c2 y (vFirst y) v mv y en) ∧ EnRes W (w.heap.size + 1 + 1 + 1 + 1) C y l (vDays y) en us
theorem bel_low {w W W2 : World} {g : Nat} (h : Below w.heap.size w W) (hg : w.heap.size ≤ g) (hb : Below g W W2) : Below w.heap.size w W2 := h.trans (hb.mono hg)
set_option maxRecDepth 20000 in
set_option maxHeartbeats 1000000 in
theorem build_c (C : Cat) (A1 : Option Addr) (n1 c1 : Nat) (A2 : Option Addr) (n2 c2 : Nat) (y : Int) (w : World) (ht : Hid (Tabs w)) (hI : Hid (CatIn w C A1 n1 c1 A2 n2 c2)) (hG : Hid C.Good) (y1 : 1583 ≤ y) (y2 : y ≤ 1000000000) :
    Calls Tryz.prog 10 #[.agg #[.int .i64 C.free, .slice A1 n1 c1, .slice A2 n2 c2], .int .i64 y] w fun e w' => ((vMoves C y = none ∧ e = .returned (.tuple #[.agg #[.int .i64 0, .slice none 0 0], .int .i64 5])) ∨ ∃ l en us, vMoves C y = some l ∧ e = .returned (.tuple #[.agg #[.int .i64 y, en], .int .i64 0]) ∧ EnRes w' w.heap.size C y l (vDays y) en us) ∧ Below w.heap.size w w' := by
  have dn : 1 ≤ vDays y ∧ vDays y ≤ 400 := by have := lp01 (vLeap y); unfold vDays; omega
  have HS : Hid (BuSt w ((((w.alloc (.cells #[.int .i64 C.free, .slice A1 n1 c1, .slice A2 n2 c2] 25)).alloc (.cells #[.int .i64 0, .slice none 0 0] 31)).alloc (.cells #[.int .i64 C.free, .slice A1 n1 c1, .slice A2 n2 c2, .int .i64 y, .int .i64 0, .slice none 0 0, .slice none 0 0, .int .i64 0, .slice none 0 0] 80)).alloc (.cells #[.func (.func 30) #[.pointer (some ⟨w.heap.size + 1 + 1, 0, none⟩)] #[], .func (.func 31) #[.pointer (some ⟨w.heap.size + 1 + 1, 0, none⟩)] #[], .func (.func 32) #[.pointer (some ⟨w.heap.size + 1 + 1, 0, none⟩)] #[]] 81)) C A1 n1 c1 A2 n2 c2 y 0) := Lib.hid ⟨((((Below.refl _ _).alloc (Nat.le_refl _) _).alloc (by simp) _).alloc (by simp; omega) _).alloc (by simp; omega) _, ((Blk.new2 _ _ _ _).alloc _).alloc _, (Blk.new3 _ _ _ _ _).alloc _, by
    have := Blk.new ((((w.alloc (.cells #[.int .i64 C.free, .slice A1 n1 c1, .slice A2 n2 c2] 25)).alloc (.cells #[.int .i64 0, .slice none 0 0] 31)).alloc (.cells #[.int .i64 C.free, .slice A1 n1 c1, .slice A2 n2 c2, .int .i64 y, .int .i64 0, .slice none 0 0, .slice none 0 0, .int .i64 0, .slice none 0 0] 80))) #[mFn 30 (w.heap.size + 1 + 1), mFn 31 (w.heap.size + 1 + 1), mFn 32 (w.heap.size + 1 + 1)] 81
    simp only [World.size_alloc] at this
    exact this⟩
  go_enter Tryz.func10, Tryz.ntmps10
  go_wp2_with fail
  generalize ((((w.alloc (.cells #[.int .i64 C.free, .slice A1 n1 c1, .slice A2 n2 c2] 25)).alloc (.cells #[.int .i64 0, .slice none 0 0] 31)).alloc (.cells #[.int .i64 C.free, .slice A1 n1 c1, .slice A2 n2 c2, .int .i64 y, .int .i64 0, .slice none 0 0, .slice none 0 0, .int .i64 0, .slice none 0 0] 80)).alloc (.cells #[.func (.func 30) #[.pointer (some ⟨w.heap.size + 1 + 1, 0, none⟩)] #[], .func (.func 31) #[.pointer (some ⟨w.heap.size + 1 + 1, 0, none⟩)] #[], .func (.func 32) #[.pointer (some ⟨w.heap.size + 1 + 1, 0, none⟩)] #[]] 81)) = W0 at *
  go_loopw [22] (fun i wr => ∃ k : Nat, k ≤ 3 ∧ i = .int .i64 k ∧ Hid (BuSt w wr C A1 n1 c1 A2 n2 c2 y k)) (fun i _ => (3 - intOf i).toNat)
  case atStart => exact ⟨0, by omega, rfl, HS⟩
  case round =>
    clear HS
    obtain ⟨k, k1, rfl, HS⟩ := hrel
    rcases (show k = 0 ∨ k = 1 ∨ k = 2 ∨ k = 3 by omega) with rfl | rfl | rfl | rfl
    · have HB : Hid (BuBox w wr (bdCells C A1 n1 c1 A2 n2 c2 y 0 (.slice none 0 0) (.slice none 0 0) 0 (.slice none 0 0))) := HS
      clear HS
      have a0 : wr.cell? ⟨w.heap.size + 1 + 1 + 1, 0, none⟩ = some (.func (.func 30) #[.pointer (some ⟨w.heap.size + 1 + 1, 0, none⟩)] #[]) := HB.out.ar.cell 0
      have al := HB.out.ar.lt
      go_wp2_with (first | (go_at_call 30; with_reducible refine (oresolve_c C A1 n1 c1 A2 n2 c2 y _ _ (Lib.hid (fun W h => ⟨ht.out.below (bel_low HB.out.bel (by omega) h), hI.out.below (bel_low HB.out.bel (by omega) h)⟩)) (Lib.hid HB.out.bd) hG y1 y2).mono ?_; rintro e w1 ⟨v, vs, rfl, ⟨h1, h2⟩, h3⟩; have HN := Lib.hid (HB.out.next h3 h1); have HD := Lib.hid (h2.less HB.out.size); clear h1 h2 h3))
      exact ⟨⟨1, by omega, rfl, Lib.hid ⟨v, vs, HN.out, HD.out⟩⟩, by simp [intOf]⟩
    · obtain ⟨v, vs, hbu, hdy⟩ : ∃ v vs, BuBox w wr (bdCells C A1 n1 c1 A2 n2 c2 y (vFirst y) v (.slice none 0 0) 0 (.slice none 0 0)) ∧ DyRes wr (w.heap.size + 1 + 1 + 1 + 1) C y (vDays y) v vs := HS.out
      have HB := Lib.hid hbu
      have HD := Lib.hid hdy
      clear HS hbu hdy
      have a1 : wr.cell? ⟨w.heap.size + 1 + 1 + 1, 1, none⟩ = some (.func (.func 31) #[.pointer (some ⟨w.heap.size + 1 + 1, 0, none⟩)] #[]) := HB.out.ar.cell 1
      have al := HB.out.ar.lt
      go_wp2_with fail
      refine (otransfer_c C A1 n1 c1 A2 n2 c2 y (vFirst y) _ (w.heap.size + 1 + 1 + 1 + 1) (vDays y) v vs _ (Lib.hid HB.out.bd) hG HD dn (by omega)).mono ?_
      rintro e w1 ⟨(⟨h1, rfl⟩ | ⟨out, u, h1, rfl, h2, h3, h4⟩), h5⟩
      · have H1 := Lib.hid h1
        have HR := Lib.hid (HB.out.res.grown h5 (by simp))
        have HL := Lib.hid (HB.out.bel.grown h5 HB.out.bel.size (fun k e => by cases e; omega))
        clear h1 h5
        have z0 : w1.cell? ⟨w.heap.size + 1, 0, none⟩ = some (.int .i64 0) := HR.out.cell 0
        have z1 : w1.cell? ⟨w.heap.size + 1, 1, none⟩ = some (.slice none 0 0) := HR.out.cell 1
        have f0 := HR.out.frozen 0
        have f1 := HR.out.frozen 1
        go_wp2_with fail
        have G : w1.grownBy _ (some (w.heap.size + 1)) := (gs_set w1 (w.heap.size + 1) 0 (.int .i64 0)).trans (gs_set _ _ 1 (.slice none 0 0))
        refine bodyPost_ret (results_ct rfl _ _ (w.heap.size + 1) 31 #[.int .i64 0, .slice none 0 0] (0, 0) _ rfl ((HR.out.put 0 _ rfl).put 1 _ rfl) Tryz.underlying31 rfl (by kernel_rfl)) rfl ?_
        exact ⟨.inl ⟨H1.out, rfl⟩, HL.out.grown G HL.out.size (fun k e => by cases e; omega)⟩
      · have H1 := Lib.hid h1
        have HN := Lib.hid (HB.out.next h5 h2)
        have HD2 := Lib.hid h3
        have HM := Lib.hid (h4.less HB.out.size)
        clear h1 h2 h3 h4 h5
        go_wp2_with fail
        exact ⟨⟨2, by omega, rfl, Lib.hid ⟨v, vs, out, u, H1.out, HN.out, HD2.out, HM.out⟩⟩, by simp [intOf]⟩
    · obtain ⟨v, vs, l, mv, hm, hbu, hdy, hmv⟩ : ∃ v vs l mv, vMoves C y = some l ∧ BuBox w wr (bdCells C A1 n1 c1 A2 n2 c2 y (vFirst y) v mv 0 (.slice none 0 0)) ∧ DyRes wr (w.heap.size + 1 + 1 + 1 + 1) C y (vDays y) v vs ∧ Own wr (w.heap.size + 1 + 1 + 1 + 1) 153 3 mv (mvRows l) := HS.out
      have HB := Lib.hid hbu
      have HD := Lib.hid hdy
      have HM := Lib.hid hm
      have HMV := Lib.hid hmv
      have HOK := Lib.hid (moves_ok hG.out hm)
      clear HS hbu hdy hm hmv
      have a2 : wr.cell? ⟨w.heap.size + 1 + 1 + 1, 2, none⟩ = some (.func (.func 32) #[.pointer (some ⟨w.heap.size + 1 + 1, 0, none⟩)] #[]) := HB.out.ar.cell 2
      have al := HB.out.ar.lt
      go_wp2_with (first | (go_at_call 32; with_reducible refine (oassemble_c C A1 n1 c1 A2 n2 c2 y _ (w.heap.size + 1 + 1 + 1 + 1) (vDays y) v mv vs l _ (Lib.hid (fun W h => ⟨ht.out.below (bel_low HB.out.bel (by omega) h), hI.out.below (bel_low HB.out.bel (by omega) h)⟩)) (Lib.hid HB.out.bd) hG y1 y2 HD HMV HOK (Lib.hid rfl) dn).mono ?_; rintro e w1 ⟨en, us, rfl, ⟨h1, h2⟩, h3⟩; have HN := Lib.hid (HB.out.next h3 h1); have HE := Lib.hid (h2.less HB.out.size); clear h1 h2 h3))
      exact ⟨⟨3, by omega, rfl, Lib.hid ⟨v, mv, en, us, l, HM.out, HN.out, HE.out⟩⟩, by simp [intOf]⟩
    · obtain ⟨v, mv, en, us, l, hm, hbu, hen⟩ : ∃ v mv en us l, vMoves C y = some l ∧ BuBox w wr (bdCells C A1 n1 c1 A2 n2 c2 y (vFirst y) v mv y en) ∧ EnRes wr (w.heap.size + 1 + 1 + 1 + 1) C y l (vDays y) en us := HS.out
      have HB := Lib.hid hbu
      have HM := Lib.hid hm
      have HE := Lib.hid hen
      clear HS hbu hm hen
      obtain ⟨ea, em, ec, rfl⟩ := HE.out.out.named
      have x7 : wr.cell? ⟨w.heap.size + 1 + 1, 7, none⟩ = some (.int .i64 y) := HB.out.bd.cell 7
      have x8 : wr.cell? ⟨w.heap.size + 1 + 1, 8, none⟩ = some (.slice ea em ec) := HB.out.bd.cell 8
      have z0 : wr.cell? ⟨w.heap.size + 1, 0, none⟩ = some (.int .i64 0) := HB.out.res.cell 0
      have z1 : wr.cell? ⟨w.heap.size + 1, 1, none⟩ = some (.slice none 0 0) := HB.out.res.cell 1
      have f0 := HB.out.res.frozen 0
      have f1 := HB.out.res.frozen 1
      go_wp2_with fail
      have G : wr.grownBy _ (some (w.heap.size + 1)) := (gs_set wr (w.heap.size + 1) 0 (.int .i64 y)).trans (gs_set _ _ 1 (.slice ea em ec))
      refine bodyPost_ret (results_ct rfl _ _ (w.heap.size + 1) 31 #[.int .i64 y, .slice ea em ec] (0, 0) _ rfl ((HB.out.res.put 0 _ rfl).put 1 _ rfl) Tryz.underlying31 rfl (by kernel_rfl)) rfl ?_
      exact ⟨.inr ⟨l, _, us, HM.out, rfl, (HE.out.kept G HB.out.res (by decide) (by decide)).less (by omega)⟩, HB.out.bel.grown G HB.out.bel.size (fun k e => by cases e; omega)⟩
end Go.Proofs.YtdgaflcnigljlaaGreatDoor
/-
  The moves of a year: each goes to the first free day that none before it has taken, and they stand in order. Plain law. No further condition.
-/
namespace Go.Proofs.YtdgaflcnigljlaaGreatDoor
open Go.RowKit
set_option linter.unusedVariables false
theorem vTaken_iff {out : List Mv} {t : Int} : vTaken out t = true ↔ ∃ m ∈ out, m.dst = t := by
  unfold vTaken; simp
/-- What holds of a move with those before it. -/
def MvOk (free : List Bool) (A : List Mv) (m : Mv) : Prop := ∃ s t : Nat, m.src = s ∧ m.dst = t ∧ s < t ∧ free[t]? = some true ∧ vTaken A t = false ∧ ∀ u : Nat, s < u → u < t → free[u]? = some true → vTaken A u = true
def MvAll (free : List Bool) (l : List Mv) : Prop := ∀ A m B, l = A ++ m :: B → MvOk free A m
theorem MvAll.nil (free : List Bool) : MvAll free [] := fun A m B h => by cases A <;> cases h
theorem MvAll.snoc {free : List Bool} {l : List Mv} {m : Mv} (h : MvAll free l) (hm : MvOk free l m) : MvAll free (l ++ [m]) := fun A x B e => by
  rcases List.eq_nil_or_concat B with rfl | ⟨B', b, rfl⟩
  · have := List.append_inj' e rfl
    obtain ⟨rfl, h2⟩ := this
    cases h2
    exact hm
  · rw [show A ++ x :: (B'.concat b) = (A ++ x :: B') ++ [b] by simp [List.concat_eq_append]] at e
    have := List.append_inj' e rfl
    exact h A x B' this.1
theorem vAsg1_ok {free : List Bool} {day : Nat} {fs : List Int} {out o : List Mv} (h : vAsg1 free day out fs = some o) (g : MvAll free out) : MvAll free o := by
  induction fs generalizing out with
  | nil => cases h; exact g
  | cons a fs ih =>
    simp only [vAsg1] at h
    cases e : vNext free out (free.length - (day + 1)) (day + 1) with
    | none => rw [e] at h; cases h
    | some t =>
      rw [e] at h
      obtain ⟨t1, t2, t3, t4, t5⟩ := vNext_some e
      refine ih h (g.snoc ⟨day, t, rfl, rfl, by omega, t3, t4, fun u u1 u2 u3 => ?_⟩)
      have := t5 u (by omega) u2
      cases hv : vTaken out u with
      | true => rfl
      | false => exact absurd ⟨u3, hv⟩ this
theorem vAsg_ok {free : List Bool} {L : List (List Int)} {day : Nat} {out o : List Mv} (h : vAsg free day out L = some o) (g : MvAll free out) : MvAll free o := by
  induction L generalizing day out with
  | nil => cases h; exact g
  | cons a L ih =>
    simp only [vAsg] at h
    cases e : vAsg1 free day out a with
    | none => rw [e] at h; cases h
    | some x => rw [e] at h; exact ih h (vAsg1_ok e g)
/-- The order of moves, given one of feasts. -/
def MvLt (R : Int → Int → Prop) (a b : Mv) : Prop := a.src < b.src ∨ (a.src = b.src ∧ R a.feast b.feast)
theorem vAsg1_ord {R : Int → Int → Prop} {free : List Bool} {day : Nat} {fs : List Int} {out o : List Mv} (h : vAsg1 free day out fs = some o) (hf : fs.Pairwise R) (g : out.Pairwise (MvLt R)) (hs : ∀ m ∈ out, m.src < day ∨ (m.src = day ∧ ∀ f ∈ fs, R m.feast f)) : o.Pairwise (MvLt R) ∧ ∀ m ∈ o, m.src ≤ day := by
  induction fs generalizing out with
  | nil => cases h; exact ⟨g, fun m hm => by rcases hs m hm with a | a <;> omega⟩
  | cons a fs ih =>
    simp only [vAsg1] at h
    obtain ⟨f1, f2⟩ := List.pairwise_cons.1 hf
    cases e : vNext free out (free.length - (day + 1)) (day + 1) with
    | none => rw [e] at h; cases h
    | some t =>
      rw [e] at h
      refine ih h f2 ?_ fun m hm => ?_
      · rw [List.pairwise_append]
        refine ⟨g, List.pairwise_singleton _ _, fun x hx z hz => ?_⟩
        rw [List.mem_singleton] at hz
        subst hz
        rcases hs x hx with q | ⟨q, q2⟩
        · exact .inl q
        · exact .inr ⟨q, q2 a (.head _)⟩
      · rcases List.mem_append.1 hm with hm | hm
        · rcases hs m hm with q | ⟨q, q2⟩
          · exact .inl q
          · exact .inr ⟨q, fun f hf => q2 f (.tail _ hf)⟩
        · rw [List.mem_singleton] at hm
          subst hm
          exact .inr ⟨rfl, fun f hf => f1 f hf⟩
theorem vAsg_ord {R : Int → Int → Prop} {free : List Bool} {L : List (List Int)} {day : Nat} {out o : List Mv} (h : vAsg free day out L = some o) (hf : ∀ fs ∈ L, fs.Pairwise R) (g : out.Pairwise (MvLt R)) (hs : ∀ m ∈ out, m.src < day) : o.Pairwise (MvLt R) := by
  induction L generalizing day out with
  | nil => cases h; exact g
  | cons a L ih =>
    simp only [vAsg] at h
    cases e : vAsg1 free day out a with
    | none => rw [e] at h; cases h
    | some x =>
      rw [e] at h
      obtain ⟨p, q⟩ := vAsg1_ord e (hf a (.head _)) g fun m hm => .inl (hs m hm)
      exact ih h (fun fs hfs => hf fs (.tail _ hfs)) p fun m hm => by have := q m hm; omega
/-- The order of feasts. -/
def FeLt (C : Cat) (a b : Int) : Prop := (feaOf C a).2 < (feaOf C b).2 ∨ ((feaOf C a).2 = (feaOf C b).2 ∧ a < b)
/-- A candidate that is a feast bears its rank. -/
def CdFe (C : Cat) (x : Cand) : Prop := x.kind = 2 → (feaOf C x.idx).2 = x.rank
theorem cands_fe (C : Cat) (y d : Int) : ∀ x ∈ vCands C y d, CdFe C x := fun x hx h2 => by
  rcases List.mem_cons.1 hx with rfl | hx
  · simp [vTemp] at h2
  · obtain ⟨p, hp, hq⟩ := List.mem_filterMap.1 hx
    rw [List.take_length] at hp
    unfold feaC at hq
    split at hq
    · cases hq
      have := List.mem_zipIdx_iff_getElem?.1 hp
      unfold feaOf
      rw [show (((p.2 : Nat) : Int).toNat) = p.2 from Int.toNat_natCast _, this]
    · cases hq
theorem im_ord (C : Cat) (y : Int) (i : Nat) : (vRz C y i).im.Pairwise (FeLt C) := by
  have h1 : (vLine C y i).Pairwise Prec := vSort_ord (cands_tot C y _)
  have h2 : ((vLine C y i).drop 1).Pairwise Prec := h1.sublist (List.drop_sublist _ _)
  show (vPol C 1 ((vLine C y i).drop 1)).Pairwise (FeLt C)
  unfold vPol
  rw [List.pairwise_filterMap]
  refine h2.imp_of_mem fun {a b} ha hb hab => ?_
  intro x hx z hz
  split at hx
  · rename_i ca
    split at hz
    · rename_i cb
      cases hx; cases hz
      have fa := cands_fe C y _ a ((vSort_perm _).mem_iff.1 (List.mem_of_mem_drop ha)) ca.1
      have fb := cands_fe C y _ b ((vSort_perm _).mem_iff.1 (List.mem_of_mem_drop hb)) cb.1
      unfold FeLt
      rw [fa, fb]
      unfold Prec at hab
      have := ca.1
      have := cb.1
      omega
    · cases hz
  · cases hx
theorem moves_ord {C : Cat} {y : Int} {l : List Mv} (h : vMoves C y = some l) : l.Pairwise (MvLt (FeLt C)) :=
  vAsg_ord h (fun fs hfs => by
    obtain ⟨i, _, rfl⟩ := List.mem_map.1 hfs
    exact im_ord C y i) List.Pairwise.nil (fun m hm => by cases hm)
theorem moves_all {C : Cat} {y : Int} {l : List Mv} (h : vMoves C y = some l) : MvAll (vFreeL C y (vDays y)) l := vAsg_ok h (MvAll.nil _)
theorem vFreeL_at {C : Cat} {y : Int} {n i : Nat} (h : i < n) : (vFreeL C y n)[i]? = some (decide (C.free < (vRz C y i).p.rank)) := by simp [vFreeL, h]
/-- The move that a day takes, with those before it. -/
theorem take_split {l : List Mv} {i : Int} {m : Mv} (h : vTake l i = some m) : m.dst = i ∧ ∃ A B, l = A ++ m :: B := by
  refine ⟨by simpa using List.find?_some h, List.append_of_mem (List.mem_of_find?_eq_some h)⟩
/-- What the law asks of a transferred feast. -/
theorem moved_ok {C : Cat} {y : Int} {l : List Mv} (h : vMoves C y = some l) {i : Nat} {m : Mv} (ht : vTake l i = some m) : ∃ s : Nat, m.src = s ∧ s < i ∧ i < vDays y ∧ C.free < (vRz C y i).p.rank ∧ ∀ u : Nat, s < u → u < i → C.free < (vRz C y u).p.rank → ∃ m2, vTake l u = some m2 ∧ MvLt (FeLt C) m2 m := by
  obtain ⟨hd, A, B, rfl⟩ := take_split ht
  obtain ⟨s, t, e1, e2, h1, h2, h3, h4⟩ := moves_all h A m B rfl
  obtain rfl : t = i := by omega
  have hlen : t < vDays y := by rw [← vFreeL_len C y (vDays y)]; exact (List.getElem?_eq_some_iff.1 h2).1
  rw [vFreeL_at hlen] at h2
  refine ⟨s, e1, h1, hlen, by simpa using h2, fun u u1 u2 u3 => ?_⟩
  have := h4 u u1 u2 (by rw [vFreeL_at (by omega), decide_eq_true u3])
  have hu : ∃ m2 ∈ A, m2.dst = u := vTaken_iff.1 this
  obtain ⟨m3, hm3, hd3⟩ := hu
  have hf : (A.find? fun m => decide (m.dst = (u : Int))).isSome = true := by
    rw [List.find?_isSome]; exact ⟨m3, hm3, by simpa using hd3⟩
  obtain ⟨m2, hm2⟩ := Option.isSome_iff_exists.1 hf
  have ht2 : vTake (A ++ m :: B) u = some m2 := by
    unfold vTake; rw [List.find?_append, hm2]; rfl
  exact ⟨m2, ht2, (List.pairwise_append.1 (moves_ord h)).2.2 m2 (List.mem_of_find?_eq_some hm2) m (.head _)⟩
/-- Dates of one year are ordered as their days. -/
theorem date_lt {y a b : Int} (ha : vFirst y ≤ a) (hb : b < vFirst (y + 1)) (h : a < b) : vYear a = y ∧ vYear b = y ∧ (mMon a < mMon b ∨ (mMon a = mMon b ∧ mDay a < mDay b)) := by
  have e1 : vYear a = y := vYear_uniq ha (by omega)
  have e2 : vYear b = y := vYear_uniq (by omega) hb
  have s := vFirst_succ y
  refine ⟨e1, e2, ?_⟩
  have da : vDoy a = a - vFirst y := by unfold vDoy; rw [e1]
  have db : vDoy b = b - vFirst y := by unfold vDoy; rw [e2]
  obtain ⟨a1, a2, a3, a4⟩ := vMon_spec (b := vLeap y) (d := vDoy a) (by omega) (by omega)
  obtain ⟨b1, b2, b3, b4⟩ := vMon_spec (b := vLeap y) (d := vDoy b) (by omega) (by omega)
  have ma : mMon a = vMon (vLeap y) (vDoy a) := by unfold mMon; rw [e1]
  have mb : mMon b = vMon (vLeap y) (vDoy b) := by unfold mMon; rw [e2]
  have ya : mDay a = vDoy a - vCum (vLeap y) (mMon a) + 1 := by unfold mDay; rw [e1]
  have yb : mDay b = vDoy b - vCum (vLeap y) (mMon b) + 1 := by unfold mDay; rw [e2]
  rw [ya, yb, ma, mb]
  rcases Int.lt_trichotomy (vMon (vLeap y) (vDoy a)) (vMon (vLeap y) (vDoy b)) with q | q | q
  · exact .inl q
  · exact .inr ⟨q, by rw [q]; omega⟩
  · have := vCum_mono (b := vLeap y) (m := vMon (vLeap y) (vDoy b) + 1) (k := vMon (vLeap y) (vDoy a)) (by omega) (by omega) (by omega)
    omega
end Go.Proofs.YtdgaflcnigljlaaGreatDoor
