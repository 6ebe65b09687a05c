/-
  Contracts and plain facts for the laws on the whole program: the parts below say each what they are. No further condition.
-/
import Derived.Test.YtdgaflcnigljlaaGreatDoorS42
set_option linter.unusedSimpArgs false
/-
  Contract of reference 21: the celebration of a day. At well-formed small catalogues. No further condition.
-/
namespace Go.Proofs.YtdgaflcnigljlaaGreatDoor
open Go.RowKit Go.Proofs Go.Proofs.YtdgaflcnigljlaaGreatDoorW.PrintWords
set_option linter.unusedVariables false
def Apt (u v : Value) : Prop := ∀ b, u.ownBlock = some b → v.ownBlock ≠ some b
theorem Apt.sy {u v : Value} (h : Apt u v) : Apt v u := fun b hb hu => h b hu hb
theorem Apt.or {u v : Value} (h : Apt u v) : v.ownBlock = none ∨ v.ownBlock ≠ u.ownBlock := by
  cases e : v.ownBlock with
  | none => exact .inl rfl
  | some b => exact .inr fun h2 => h b h2.symm e
theorem Apt.new {W : World} {b e sz : Nat} {u u1 v : Value} {rows : List (Array Value)} (h : Apt u v) (hv : Own W b e sz v rows) (ha : u1.ownBlock = u.ownBlock ∨ ∃ k, u1.ownBlock = some k ∧ W.heap.size ≤ k) : Apt u1 v := fun k hk hv2 => by
  rcases ha with ha | ⟨k', e', hle⟩
  · exact h k (by rw [← ha]; exact hk) hv2
  · rw [hk] at e'; cases e'
    have := (hv.block k hv2).2
    omega
/-- A list of numbers of one's own, of at most n. -/
def OwnL (W : World) (b : Nat) (v : Value) (n : Nat) : Prop := ∃ l : List Int, Own W b 3 1 v (intRows l) ∧ l.length ≤ n
structure RsP (w W : World) (C : Cat) (A1 : Option Addr) (n1 c1 : Nat) (A2 : Option Addr) (n2 c2 : Nat) (q : Nat) (p : Cand) (k : Nat) (u1 u2 u3 : Value) : Prop where
  bel : Below w.heap.size w W
  box : Blk W w.heap.size #[.int .i64 C.free, .slice A1 n1 c1, .slice A2 n2 c2] 25
  res : Blk W (w.heap.size + 1) #[.int .i64 0, .int .i64 0, .int .i64 0, .string ⟨#[]⟩, .slice none 0 0, .slice none 0 0, .slice none 0 0] 48
  ql : w.heap.size + 1 < q
  q : Blk W q #[.int .i64 p.kind, .int .i64 p.idx, .int .i64 p.rank, .string p.id, u1, u2, u3] 48
  o1 : OwnL W (w.heap.size + 2) u1 k
  o2 : OwnL W (w.heap.size + 2) u2 k
  o3 : OwnL W (w.heap.size + 2) u3 k
  a12 : Apt u1 u2
  a13 : Apt u1 u3
  a23 : Apt u2 u3
section
variable {w W W2 : World} {C : Cat} {A1 A2 : Option Addr} {n1 c1 n2 c2 q k : Nat} {p : Cand} {u1 u2 u3 v : Value}
theorem OwnL.below {b : Nat} (h : OwnL W b v k) (hb : Below W.heap.size W W2) : OwnL W2 b v k := by
  obtain ⟨l, o, e⟩ := h; exact ⟨l, o.below hb, e⟩
theorem OwnL.more {b m : Nat} (h : OwnL W b v k) (hm : k ≤ m) : OwnL W b v m := by
  obtain ⟨l, o, e⟩ := h; exact ⟨l, o, Nat.le_trans e hm⟩
theorem OwnL.kept {b : Nat} {row : Option Nat} (h : OwnL W b v k) (hg : W.grownBy W2 row) (hn : v.ownBlock = none ∨ v.ownBlock ≠ row) : OwnL W2 b v k := by
  obtain ⟨l, o, e⟩ := h; exact ⟨l, o.kept hg hn, e⟩
theorem OwnL.set {b : Nat} {g i : Nat} {cs : Array Value} {t : TypeId} {u : Value} (h : OwnL W b v k) (hq : Blk W g cs t) (hne : 3 ≠ t) : OwnL (W.setCell ⟨g, i, none⟩ u) b v k := by
  obtain ⟨l, o, e⟩ := h; exact ⟨l, o.kept (gs_set _ _ _ _) (.inr (o.ne_blk hq hne)), e⟩
theorem RsP.below (h : RsP w W C A1 n1 c1 A2 n2 c2 q p k u1 u2 u3) (hb : Below W.heap.size W W2) : RsP w W2 C A1 n1 c1 A2 n2 c2 q p k u1 u2 u3 :=
  ⟨below_then h.bel h.bel.size hb, h.box.below hb, h.res.below hb, h.ql, h.q.below hb, h.o1.below hb, h.o2.below hb, h.o3.below hb, h.a12, h.a13, h.a23⟩
theorem RsP.more {m : Nat} (h : RsP w W C A1 n1 c1 A2 n2 c2 q p k u1 u2 u3) (hm : k ≤ m) : RsP w W C A1 n1 c1 A2 n2 c2 q p m u1 u2 u3 :=
  ⟨h.bel, h.box, h.res, h.ql, h.q, h.o1.more hm, h.o2.more hm, h.o3.more hm, h.a12, h.a13, h.a23⟩
/-- What an append to a list of one's own leaves. -/
structure ApPost (W W2 : World) (b : Nat) (u u' : Value) (k : Nat) : Prop where
  own : OwnL W2 b u' (k + 1)
  bel : Below b W W2
  gr : W.grownBy W2 u.ownBlock
  at_ : u'.ownBlock = u.ownBlock ∨ ∃ j, u'.ownBlock = some j ∧ W.heap.size ≤ j
theorem ApPost.blk {b g : Nat} {u u' : Value} {cs : Array Value} {t : TypeId} (h : ApPost W W2 b u u' k) (ho : OwnL W b u k) (hb : Blk W g cs t) (hne : 3 ≠ t) : Blk W2 g cs t := by
  obtain ⟨l, o, _⟩ := ho
  exact Blk.grown hb h.gr (o.ne_blk hb hne)
theorem RsP.app1 (h : RsP w W C A1 n1 c1 A2 n2 c2 q p k u1 u2 u3) (ha : ApPost W W2 (w.heap.size + 2) u1 v k) : RsP w (W2.setCell ⟨q, 4, none⟩ v) C A1 n1 c1 A2 n2 c2 q p (k + 1) v u2 u3 := by
  have B := ha.blk h.o1 h.q (by decide)
  obtain ⟨l2, p2, e2⟩ := h.o2
  obtain ⟨l3, p3, e3⟩ := h.o3
  exact ⟨(h.bel.trans (ha.bel.mono (by omega))).setCell (show w.heap.size ≤ q by have := h.ql; omega) _, (ha.blk h.o1 h.box (by decide)).far (show w.heap.size ≠ q by have := h.ql; omega) _, (ha.blk h.o1 h.res (by decide)).far (show w.heap.size + 1 ≠ q by have := h.ql; omega) _, h.ql, B.put 4 _ rfl,
    ha.own.set B (by decide), ((OwnL.kept h.o2 ha.gr h.a12.or).set B (by decide)).more (Nat.le_succ _), ((OwnL.kept h.o3 ha.gr h.a13.or).set B (by decide)).more (Nat.le_succ _), h.a12.new p2 ha.at_, h.a13.new p3 ha.at_, h.a23⟩
theorem RsP.app2 (h : RsP w W C A1 n1 c1 A2 n2 c2 q p k u1 u2 u3) (ha : ApPost W W2 (w.heap.size + 2) u2 v k) : RsP w (W2.setCell ⟨q, 5, none⟩ v) C A1 n1 c1 A2 n2 c2 q p (k + 1) u1 v u3 := by
  have B := ha.blk h.o2 h.q (by decide)
  obtain ⟨l1, p1, e1⟩ := h.o1
  obtain ⟨l3, p3, e3⟩ := h.o3
  exact ⟨(h.bel.trans (ha.bel.mono (by omega))).setCell (show w.heap.size ≤ q by have := h.ql; omega) _, (ha.blk h.o2 h.box (by decide)).far (show w.heap.size ≠ q by have := h.ql; omega) _, (ha.blk h.o2 h.res (by decide)).far (show w.heap.size + 1 ≠ q by have := h.ql; omega) _, h.ql, B.put 5 _ rfl,
    ((OwnL.kept h.o1 ha.gr h.a12.sy.or).set B (by decide)).more (Nat.le_succ _), ha.own.set B (by decide), ((OwnL.kept h.o3 ha.gr h.a23.or).set B (by decide)).more (Nat.le_succ _), (h.a12.sy.new p1 ha.at_).sy, h.a13, h.a23.new p3 ha.at_⟩
theorem RsP.app3 (h : RsP w W C A1 n1 c1 A2 n2 c2 q p k u1 u2 u3) (ha : ApPost W W2 (w.heap.size + 2) u3 v k) : RsP w (W2.setCell ⟨q, 6, none⟩ v) C A1 n1 c1 A2 n2 c2 q p (k + 1) u1 u2 v := by
  have B := ha.blk h.o3 h.q (by decide)
  obtain ⟨l1, p1, e1⟩ := h.o1
  obtain ⟨l2, p2, e2⟩ := h.o2
  exact ⟨(h.bel.trans (ha.bel.mono (by omega))).setCell (show w.heap.size ≤ q by have := h.ql; omega) _, (ha.blk h.o3 h.box (by decide)).far (show w.heap.size ≠ q by have := h.ql; omega) _, (ha.blk h.o3 h.res (by decide)).far (show w.heap.size + 1 ≠ q by have := h.ql; omega) _, h.ql, B.put 6 _ rfl,
    ((OwnL.kept h.o1 ha.gr h.a13.sy.or).set B (by decide)).more (Nat.le_succ _), ((OwnL.kept h.o2 ha.gr h.a23.sy.or).set B (by decide)).more (Nat.le_succ _), ha.own.set B (by decide), h.a12, (h.a13.sy.new p1 ha.at_).sy, (h.a23.sy.new p2 ha.at_).sy⟩
theorem Blk.c7 {g : Nat} {t : TypeId} {a b c d e f h : Value} (H : Blk W g #[a, b, c, d, e, f, h] t) : (W.cell? ⟨g, 0, none⟩ = some a ∧ W.cell? ⟨g, 1, none⟩ = some b ∧ W.cell? ⟨g, 2, none⟩ = some c ∧ W.cell? ⟨g, 3, none⟩ = some d ∧ W.cell? ⟨g, 4, none⟩ = some e ∧ W.cell? ⟨g, 5, none⟩ = some f ∧ W.cell? ⟨g, 6, none⟩ = some h) ∧ g < W.heap.size := ⟨⟨H.cell 0, H.cell 1, H.cell 2, H.cell 3, H.cell 4, H.cell 5, H.cell 6⟩, H.lt⟩
end
set_option maxRecDepth 20000 in
set_option maxHeartbeats 1000000 in
theorem rres_c (C : Cat) (A1 : Option Addr) (n1 c1 : Nat) (A2 : Option Addr) (n2 c2 : Nat) (L : List Cand) (v : Value) (b : Nat) (w : World) (hI : Hid (CatIn w C A1 n1 c1 A2 n2 c2)) (hG : Hid C.Good) (hO : Hid (Own w b 46 4 v (candRows L))) (ht : Hid (Tot L)) (hc : Hid (CdOk C L)) (h1 : 1 ≤ L.length) (h32 : L.length ≤ 32) :
    Calls Tryz.prog 15 #[.agg #[.int .i64 C.free, .slice A1 n1 c1, .slice A2 n2 c2], v] w fun e w' => ∃ (p1 : Option Addr) (a1 b1 : Nat) (p2 : Option Addr) (a2 b2 : Nat) (p3 : Option Addr) (a3 b3 : Nat), e = .returned (.agg #[.int .i64 (F (vSort L) 0).kind, .int .i64 (F (vSort L) 0).idx, .int .i64 (F (vSort L) 0).rank, .string (F (vSort L) 0).id, .slice p1 a1 b1, .slice p2 a2 b2, .slice p3 a3 b3]) ∧ Below w.heap.size w w' := by
  obtain ⟨g, cap, rfl, _, _, _⟩ := hO.out.ne (n := L.length) (by simp [candRows]) h1
  obtain ⟨n, hn⟩ : ∃ n, n = L.length := ⟨_, rfl⟩
  rw [← hn] at h1 h32 ⊢
  have HN := Lib.hid hn
  have HO := Lib.hid (show Own w b 46 4 (.slice (some ⟨g, 0, none⟩) n cap) (candRows L) by rw [hn]; exact hO.out)
  have VL := Lib.hid (show (vSort L).length = n by rw [(vSort_perm L).length_eq, hn])
  have CK := Lib.hid (show CdOk C (vSort L) from fun x hx => hc.out x ((vSort_perm L).mem_iff.1 hx))
  obtain ⟨p, hp⟩ : ∃ p, F (vSort L) 0 = p := ⟨_, rfl⟩
  rw [hp]
  have PH := Lib.hid (show (vSort L)[0]? = some p by rw [← hp]; exact F_at (by have := VL.out; omega))
  clear hn hO hp
  have HR := Lib.hid (And.intro (RgB.mk ((RgB.new w C A1 n1 c1 A2 n2 c2).bel.alloc (RgB.new w C A1 n1 c1 A2 n2 c2).bel.size (.cells #[.int .i64 0, .int .i64 0, .int .i64 0, .string ⟨#[]⟩, .slice none 0 0, .slice none 0 0, .slice none 0 0] 48)) ((RgB.new w C A1 n1 c1 A2 n2 c2).box.alloc _)) (Blk.new2 w (.cells #[.int .i64 C.free, .slice A1 n1 c1, .slice A2 n2 c2] 25) #[.int .i64 0, .int .i64 0, .int .i64 0, .string ⟨#[]⟩, .slice none 0 0, .slice none 0 0, .slice none 0 0] 48))
  go_enter Tryz.func15, Tryz.ntmps15
  go_upto_region 2 with (first | (go_at_call 36; with_reducible refine (rsort_c L g n cap b _ (Lib.hid (HO.out.below HR.out.1.bel)) HN ht h32).mono ?_; rintro e w1 ⟨v, rfl, ho, hb1⟩; have SO := Lib.hid (ho.less (Nat.zero_le _)); replace HR := Lib.hid (And.intro (HR.out.1.below hb1) (HR.out.2.below hb1)); clear ho hb1))
  generalize vSort L = S at *
  obtain ⟨gs, cs, rfl, _, _, _⟩ := SO.out.ne (n := n) (by simp [candRows, VL.out]) h1
  obtain ⟨⟨s0, s1, s2, s3⟩, sl⟩ := cand_cells SO.out PH.out
  simp only [Nat.zero_mul, Nat.zero_add] at s0 s1 s2 s3
  go_upto_region 3 with fail
  clear s0 s1 s2 s3 sl
  have hW : Below w1.heap.size w1 (w1.alloc (.cells #[.int .i64 p.kind, .int .i64 p.idx, .int .i64 p.rank, .string p.id, .slice none 0 0, .slice none 0 0, .slice none 0 0] 48)) := (Below.refl _ _).alloc (Nat.le_refl _) _
  have HK := Lib.hid (show RsP w (w1.alloc (.cells #[.int .i64 p.kind, .int .i64 p.idx, .int .i64 p.rank, .string p.id, .slice none 0 0, .slice none 0 0, .slice none 0 0] 48)) C A1 n1 c1 A2 n2 c2 w1.heap.size p 0 (.slice none 0 0) (.slice none 0 0) (.slice none 0 0) from
    ⟨(HR.out.1.below hW).bel, HR.out.1.box.below hW, HR.out.2.below hW, HR.out.2.lt, Blk.new _ _ _, ⟨[], Own.nil _ _ _ _, Nat.zero_le _⟩, ⟨[], Own.nil _ _ _ _, Nat.zero_le _⟩, ⟨[], Own.nil _ _ _ _, Nat.zero_le _⟩, (fun b h => by cases h), (fun b h => by cases h), (fun b h => by cases h)⟩)
  replace SO := Lib.hid (SO.out.below hW)
  have SB := Lib.hid (Below.refl (w1.alloc (.cells #[.int .i64 p.kind, .int .i64 p.idx, .int .i64 p.rank, .string p.id, .slice none 0 0, .slice none 0 0, .slice none 0 0] 48)).heap.size (w1.alloc (.cells #[.int .i64 p.kind, .int .i64 p.idx, .int .i64 p.rank, .string p.id, .slice none 0 0, .slice none 0 0, .slice none 0 0] 48)))
  clear hW HR
  generalize hq : w1.heap.size = q at HK ⊢
  clear hq SB
  generalize w1.alloc (.cells #[.int .i64 p.kind, .int .i64 p.idx, .int .i64 p.rank, .string p.id, .slice none 0 0, .slice none 0 0, .slice none 0 0] 48) = W1 at *
  go_wp2_with fail
  go_loopw [7] (fun i wr => ∃ (k : Nat) (u1 u2 u3 : Value), 1 ≤ k ∧ k ≤ n ∧ i = .int .i64 k ∧ Hid (RsP w wr C A1 n1 c1 A2 n2 c2 q p k u1 u2 u3) ∧ Hid (Own wr 0 46 4 (.slice (some ⟨gs, 0, none⟩) n cs) (candRows S))) (fun i _ => (n - intOf i).toNat)
  case atStart => exact ⟨1, _, _, _, by omega, h1, rfl, Lib.hid (HK.out.more (Nat.zero_le _)), SO⟩
  case round =>
    clear HK SO
    obtain ⟨k, u1, u2, u3, k0, k1, rfl, HK, SO⟩ := hrel
    obtain ⟨⟨x0, x1, x2⟩, _⟩ := HK.out.box.c3
    have xl := HK.out.box.lt
    obtain ⟨⟨q0, q1, q2, q3, q4, q5, q6⟩, ql⟩ := HK.out.q.c7
    by_cases hk : k < n
    · have hk' : (k : Int) < n := by omega
      obtain ⟨x, hx⟩ : ∃ x, S[k]? = some x := ⟨_, List.getElem?_eq_getElem (by have := VL.out; omega)⟩
      obtain ⟨⟨s0, s1, s2, s3⟩, sl⟩ := cand_cells SO.out hx
      have QB := Lib.hid (show w.heap.size + 2 ≤ wr.heap.size by have := HK.out.ql; have := HK.out.q.lt; omega)
      by_cases h2 : x.kind = 2
      · have t2 : (x.kind != 2) = false := by simpa using h2
        obtain ⟨i0, i1⟩ := CK.out x (List.mem_of_getElem? hx) h2
        obtain ⟨ix, hix⟩ : ∃ ix : Nat, x.idx = ix := ⟨x.idx.toNat, by omega⟩
        obtain ⟨f, hf⟩ : ∃ f, C.feas[ix]? = some f := ⟨_, List.getElem?_eq_getElem (by omega)⟩
        have ixn : ix < n2 := by have := hI.out.e2; omega
        have ixn' : (ix : Int) < n2 := by omega
        have n31 : n2 ≤ 31 := by have := hG.out.n3; have := hI.out.e2; omega
        have FO := hG.out.fea f (List.mem_of_getElem? hf)
        have p1 := FO.p1
        have p2 := FO.p2
        obtain ⟨ad2, ha2, hr2⟩ := (hI.out.fea.below HK.out.bel) ix f.cells (by rw [List.getElem?_map, hf]; rfl)
        subst ha2
        obtain ⟨a0, a1, a2, a3, a4, a5, a6, a7, a8⟩ := RowIs.nine hr2
        have plt := hr2.lt rfl
        rw [hix] at s1
        have HX := Lib.hid hix
        clear hr2 hf hx FO h2 i0 i1 hix
        rcases (show f.pol = 1 ∨ f.pol = 2 ∨ f.pol = 3 by omega) with e | e | e
        · rw [e] at a2
          go_wp2_with (at_builtin; obtain ⟨lx, px, ex⟩ := HK.out.o3; refine own_app (w0 := wr) 36 3 rfl (.tmp 41) (.tmp 43) rfl Tryz.underlying36 info3 rfl (by decide) (by decide) u3 rfl #[.int .i64 (ix : Int)] rfl rfl (by simp [Value.oneCell']) px (Below.refl _ _) QB.out (by rw [intRows, List.length_map]; omega) ?_; intro v6 w6 ho hb hg hat; obtain ⟨p6, m6, j6, rfl⟩ := ho.named; have AP := Lib.hid (show ApPost wr w6 (w.heap.size + 2) u3 (.slice p6 m6 j6) k from ⟨⟨lx ++ [(ix : Int)], by rw [← intRows_snoc]; exact ho, by simp; omega⟩, hb, hg, hat⟩); have HN := Lib.hid (HK.out.app3 AP.out); have B6 := Lib.hid (AP.out.blk HK.out.o3 HK.out.q (by decide)); have SN := Lib.hid ((SO.out.kept hg (SO.out.apart_ty px (by decide))).kept (gs_set w6 q 6 (.slice p6 m6 j6)) (.inr ((SO.out.kept hg (SO.out.apart_ty px (by decide))).ne_blk B6.out (by decide)))); have q6 := B6.out.cell 6; have f6 := B6.out.frozen 6; have ql := B6.out.lt; clear ho hb hg hat AP px ex)
          exact ⟨⟨k + 1, u1, u2, .slice p6 m6 j6, by omega, by omega, by go_num, HN, SN⟩, by simp [intOf]; omega⟩
        · rw [e] at a2
          go_wp2_with (at_builtin; obtain ⟨lx, px, ex⟩ := HK.out.o1; refine own_app (w0 := wr) 36 3 rfl (.tmp 49) (.tmp 51) rfl Tryz.underlying36 info3 rfl (by decide) (by decide) u1 rfl #[.int .i64 (ix : Int)] rfl rfl (by simp [Value.oneCell']) px (Below.refl _ _) QB.out (by rw [intRows, List.length_map]; omega) ?_; intro v6 w6 ho hb hg hat; obtain ⟨p6, m6, j6, rfl⟩ := ho.named; have AP := Lib.hid (show ApPost wr w6 (w.heap.size + 2) u1 (.slice p6 m6 j6) k from ⟨⟨lx ++ [(ix : Int)], by rw [← intRows_snoc]; exact ho, by simp; omega⟩, hb, hg, hat⟩); have HN := Lib.hid (HK.out.app1 AP.out); have B6 := Lib.hid (AP.out.blk HK.out.o1 HK.out.q (by decide)); have SN := Lib.hid ((SO.out.kept hg (SO.out.apart_ty px (by decide))).kept (gs_set w6 q 4 (.slice p6 m6 j6)) (.inr ((SO.out.kept hg (SO.out.apart_ty px (by decide))).ne_blk B6.out (by decide)))); have q4 := B6.out.cell 4; have f4 := B6.out.frozen 4; have ql := B6.out.lt; clear ho hb hg hat AP px ex)
          exact ⟨⟨k + 1, .slice p6 m6 j6, u2, u3, by omega, by omega, by go_num, HN, SN⟩, by simp [intOf]; omega⟩
        · rw [e] at a2
          go_wp2_with (at_builtin; obtain ⟨lx, px, ex⟩ := HK.out.o2; refine own_app (w0 := wr) 36 3 rfl (.tmp 57) (.tmp 59) rfl Tryz.underlying36 info3 rfl (by decide) (by decide) u2 rfl #[.int .i64 (ix : Int)] rfl rfl (by simp [Value.oneCell']) px (Below.refl _ _) QB.out (by rw [intRows, List.length_map]; omega) ?_; intro v6 w6 ho hb hg hat; obtain ⟨p6, m6, j6, rfl⟩ := ho.named; have AP := Lib.hid (show ApPost wr w6 (w.heap.size + 2) u2 (.slice p6 m6 j6) k from ⟨⟨lx ++ [(ix : Int)], by rw [← intRows_snoc]; exact ho, by simp; omega⟩, hb, hg, hat⟩); have HN := Lib.hid (HK.out.app2 AP.out); have B6 := Lib.hid (AP.out.blk HK.out.o2 HK.out.q (by decide)); have SN := Lib.hid ((SO.out.kept hg (SO.out.apart_ty px (by decide))).kept (gs_set w6 q 5 (.slice p6 m6 j6)) (.inr ((SO.out.kept hg (SO.out.apart_ty px (by decide))).ne_blk B6.out (by decide)))); have q5 := B6.out.cell 5; have f5 := B6.out.frozen 5; have ql := B6.out.lt; clear ho hb hg hat AP px ex)
          exact ⟨⟨k + 1, u1, .slice p6 m6 j6, u3, by omega, by omega, by go_num, HN, SN⟩, by simp [intOf]; omega⟩
      · have t2 : (x.kind != 2) = true := by simpa using h2
        clear h2 hx
        go_wp2_with fail
        exact ⟨⟨k + 1, u1, u2, u3, by omega, by omega, by go_num, Lib.hid (HK.out.more (Nat.le_succ _)), SO⟩, by simp [intOf]; omega⟩
    · obtain rfl : n = k := by omega
      obtain ⟨⟨y0, y1, y2, y3, y4, y5, y6⟩, yl⟩ := HK.out.res.c7
      have g0 := HK.out.res.frozen 0
      have g1 := HK.out.res.frozen 1
      have g2 := HK.out.res.frozen 2
      have g3 := HK.out.res.frozen 3
      have g4 := HK.out.res.frozen 4
      have g5 := HK.out.res.frozen 5
      have g6 := HK.out.res.frozen 6
      obtain ⟨v1, n1', k1', rfl⟩ : ∃ a b c, u1 = .slice a b c := by obtain ⟨l, o, _⟩ := HK.out.o1; exact o.named
      obtain ⟨v2, n2', k2', rfl⟩ : ∃ a b c, u2 = .slice a b c := by obtain ⟨l, o, _⟩ := HK.out.o2; exact o.named
      obtain ⟨v3, n3', k3', rfl⟩ : ∃ a b c, u3 = .slice a b c := by obtain ⟨l, o, _⟩ := HK.out.o3; exact o.named
      go_wp2_with fail
      refine bodyPost_ret (results_cell_row rfl _ _ (w.heap.size + 1) 48 #[.int .i64 p.kind, .int .i64 p.idx, .int .i64 p.rank, .string p.id, .slice v1 n1' k1', .slice v2 n2' k2', .slice v3 n3' k3'] (0, 0) _ rfl (((((((HK.out.res.put 0 _ rfl).put 1 _ rfl).put 2 _ rfl).put 3 _ rfl).put 4 _ rfl).put 5 _ rfl).put 6 _ rfl) Tryz.underlying48 rfl (by kernel_rfl)) rfl ?_
      exact ⟨_, _, _, _, _, _, _, _, _, rfl, ((((((HK.out.bel.setCell (Nat.le_succ _) _).setCell (Nat.le_succ _) _).setCell (Nat.le_succ _) _).setCell (Nat.le_succ _) _).setCell (Nat.le_succ _) _).setCell (Nat.le_succ _) _).setCell (Nat.le_succ _) _⟩
end Go.Proofs.YtdgaflcnigljlaaGreatDoor
