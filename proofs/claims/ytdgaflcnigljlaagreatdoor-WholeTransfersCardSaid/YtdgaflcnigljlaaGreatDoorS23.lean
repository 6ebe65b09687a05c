/-
  Contracts and plain facts for the laws on the whole program: the parts below say each what they are. No further condition.
-/
import Derived.Test.YtdgaflcnigljlaaGreatDoorS21
import Derived.Test.YtdgaflcnigljlaaGreatDoorS22
import Derived.Deep.RegionLaw
import Derived.Deep.AppendLies
import Derived.Deep.Cut
import Derived.Deep.CutRange
import Derived.Deep.DeepCutAuto
set_option linter.unusedSimpArgs false
/-
  Contracts of package ordo: the identifiers of feasts. At builders of calendars of small well-formed catalogues. No further condition.
-/
namespace Go.Proofs.YtdgaflcnigljlaaGreatDoor
open Go.RowKit Go.Proofs Go.MapKept Go.Proofs.YtdgaflcnigljlaaGreatDoorW.PrintWords
set_option linter.unusedVariables false
/-- The identifier of a feast. -/
def idOf (C : Cat) (i : Int) : ByteArray := match C.feas[i.toNat]? with
  | some f => f.id
  | none => ⟨#[]⟩
def vIds (C : Cat) (l : List Int) : List ByteArray := l.map (idOf C)
def strRows (l : List ByteArray) : List (Array Value) := l.map fun s => #[.string s]
theorem strRows_snoc (l : List ByteArray) (s : ByteArray) : strRows (l ++ [s]) = strRows l ++ [#[.string s]] := by simp [strRows]
theorem info9 : (Tryz.prog.info? 9).map (fun i => (i.zero, i.size, i.bytes)) = some (some (.string ⟨#[]⟩), 1, 16) := by kernel_rfl
@[reducible] def bdCells (C : Cat) (A1 : Option Addr) (n1 c1 : Nat) (A2 : Option Addr) (n2 c2 : Nat) (y first : Int) (days moves : Value) (oy : Int) (ents : Value) : Array Value := #[.int .i64 C.free, .slice A1 n1 c1, .slice A2 n2 c2, .int .i64 y, .int .i64 first, days, moves, .int .i64 oy, ents]
structure IdBox (w W : World) (g : Nat) (bc : Array Value) (v : Value) (l : List ByteArray) : Prop where
  bel : Below w.heap.size w W
  bd : Blk W g bc 80
  own : Own W w.heap.size 9 1 v (strRows l)
theorem IdBox.below {w W W2 : World} {g : Nat} {bc : Array Value} {v : Value} {l : List ByteArray} (h : IdBox w W g bc v l) (hb : Below W.heap.size W W2) : IdBox w W2 g bc v l := ⟨below_then h.bel h.bel.size hb, h.bd.below hb, h.own.below hb⟩
theorem IdBox.app {w W W2 : World} {g : Nat} {bc : Array Value} {v v1 : Value} {l : List ByteArray} {s : ByteArray} (h : IdBox w W g bc v l) (hg : g < w.heap.size) (ho : Own W2 w.heap.size 9 1 v1 (strRows l ++ [#[.string s]])) (hb : Below w.heap.size W W2) (hgr : W.grownBy W2 v.ownBlock) : IdBox w W2 g bc v1 (l ++ [s]) :=
  ⟨h.bel.trans hb, h.bd.grown hgr (fun e => by have := (h.own.block g e).1; omega), by rw [strRows_snoc]; exact ho⟩
set_option maxRecDepth 20000 in
set_option maxHeartbeats 1000000 in
theorem ids_c (C : Cat) (A1 : Option Addr) (n1 c1 : Nat) (A2 : Option Addr) (n2 c2 : Nat) (y first : Int) (days moves : Value) (oy : Int) (ents : Value) (g : Nat) (v : Value) (base : Nat) (l : List Int) (w : World) (hb : Hid (Blk w g (bdCells C A1 n1 c1 A2 n2 c2 y first days moves oy ents) 80)) (hI : Hid (CatIn w C A1 n1 c1 A2 n2 c2))
    (hv : Hid (Own w base 3 1 v (intRows l))) (hl : Hid (∀ i ∈ l, 0 ≤ i ∧ i < C.feas.length)) (hn : Hid (l.length ≤ 1000)) :
    Calls Tryz.prog 102 #[.pointer (some ⟨g, 0, none⟩), v] w fun e w' => ∃ v1, e = .returned v1 ∧ Own w' w.heap.size 9 1 v1 (strRows (vIds C l)) ∧ Below w.heap.size w w' := by
  have HB : Hid (IdBox w w g (bdCells C A1 n1 c1 A2 n2 c2 y first days moves oy ents) (.slice none 0 0) (vIds C (l.take 0))) := Lib.hid ⟨Below.refl _ _, hb.out, Own.nil _ _ _ _⟩
  obtain ⟨A, c, rfl, _⟩ := hv.out.form
  obtain ⟨n, hn'⟩ : ∃ n, (intRows l).length = n := ⟨_, rfl⟩
  have hn2 : n = l.length := by rw [← hn']; simp [intRows]
  rw [hn'] at hv ⊢
  have n1000 : n ≤ 1000 := by have := hn.out; omega
  have glt := hb.out.lt
  have N2 := Lib.hid hn2
  clear hn' hn2
  go_enter Tryz.func102, Tryz.ntmps102
  go_wp2_with fail
  go_loopw [5, 10] (fun o i wr => ∃ (k : Nat) (u : Value), u = o ∧ k ≤ n ∧ i = .int .i64 k ∧ Hid (IdBox w wr g (bdCells C A1 n1 c1 A2 n2 c2 y first days moves oy ents) u (vIds C (l.take k)))) (fun _ i _ => (n - intOf i).toNat)
  case atStart => exact ⟨0, _, rfl, by omega, rfl, HB⟩
  case round =>
    clear HB
    obtain ⟨k, u, rfl, k1, rfl, HB⟩ := hrel
    by_cases hk : k < n
    · obtain ⟨i, hi⟩ : ∃ i, l[k]? = some i := ⟨_, List.getElem?_eq_getElem (by have := N2.out; omega)⟩
      obtain ⟨i0, i1⟩ := hl.out i (List.mem_of_getElem? hi)
      have TK : Hid (vIds C (l.take k) ++ [idOf C i] = vIds C (l.take (k + 1))) := Lib.hid (by rw [take_at hi, vIds, vIds, List.map_append]; rfl)
      have SM : ((strRows (vIds C (l.take k))).length + 1) * 16 ≤ 140737488355328 := by have := N2.out; simp [strRows, vIds]; omega
      have hr : (intRows l)[k]? = some #[.int .i64 i] := by simp [intRows, hi]
      obtain ⟨ga, ca, he, _, _, _, _⟩ := (hv.out.below HB.out.bel).cell hr
      simp only [Value.slice.injEq] at he
      obtain ⟨rfl, -, -⟩ := he
      have cl := (hv.out.below HB.out.bel).at1 (g := ga) rfl k _ hr
      have bl := ((hv.out.below HB.out.bel).block ga rfl).2
      obtain ⟨f, hf⟩ : ∃ f, C.feas[i.toNat]? = some f := ⟨_, List.getElem?_eq_getElem (by omega)⟩
      have HID : Hid (idOf C i = f.id) := Lib.hid (by unfold idOf; rw [hf])
      obtain ⟨ad, ha, hr2⟩ := (hI.out.fea.below HB.out.bel) i.toNat f.cells (by rw [List.getElem?_map, hf]; rfl)
      obtain ⟨a0, a1, a2, a3, a4, a5, a6, a7, a8⟩ := RowIs.nine hr2
      have plt := hr2.lt rfl
      have hn3 : i < (n2 : Int) := by rw [hI.out.e2]; exact i1
      subst ha
      have x2 : wr.cell? ⟨g, 2, none⟩ = some (.slice (some ad) n2 c2) := HB.out.bd.cell 2
      have gl := HB.out.bd.lt
      have tk : ((k : Int) < (n : Int)) = True := by simp; exact_mod_cast hk
      clear hi hr hf hr2
      go_wp2_with (first | (at_builtin; refine own_app (w0 := wr) 40 9 rfl _ _ rfl Tryz.underlying40 info9 rfl (by decide) (by decide) _ rfl #[_] rfl rfl (by simp [Value.oneCell']) HB.out.own (Below.refl _ _) HB.out.bel.size SM ?_; intro v2 w6 ho hb2 hg hat; have HN := Lib.hid (HB.out.app glt ho hb2 hg); clear ho hb2 hg hat))
      go_roundw
      case rel => exact ⟨k + 1, v2, rfl, by omega, by go_num, Lib.hid (by rw [← TK.out, HID.out]; exact HN.out)⟩
      case measure => simp [intOf]; omega
    · have TA : Hid (vIds C (l.take k) = vIds C l) := Lib.hid (by rw [List.take_of_length_le (by have := N2.out; omega)])
      go_wp2_with fail
      go_ret
      exact ⟨u, rfl, by rw [← TA.out]; exact HB.out.own, HB.out.bel⟩
end Go.Proofs.YtdgaflcnigljlaaGreatDoor
/-
  Contracts of package ordo: the days' celebrations resolved. At builders of calendars of small well-formed catalogues, years from 1583 to 1000000000. No further condition.
-/
namespace Go.Proofs.YtdgaflcnigljlaaGreatDoor
open Go.RowKit Go.Proofs Go.MapKept Go.Proofs.YtdgaflcnigljlaaGreatDoorW.PrintWords
set_option linter.unusedVariables false
/-- The outcome of a day. -/
structure Rz where
  p : Cand
  cm : List Int
  om : List Int
  im : List Int
def vLine (C : Cat) (y : Int) (i : Nat) : List Cand := vSort (vCands C y (vFirst y + i))
def vRz (C : Cat) (y : Int) (i : Nat) : Rz := ⟨F (vLine C y i) 0, vPol C 2 ((vLine C y i).drop 1), vPol C 3 ((vLine C y i).drop 1), vPol C 1 ((vLine C y i).drop 1)⟩
@[reducible] def rzRow (r : Rz) (u : Value × Value × Value) : Array Value := #[.int .i64 r.p.kind, .int .i64 r.p.idx, .int .i64 r.p.rank, .string r.p.id, u.1, u.2.1, u.2.2]
def rzRows (C : Cat) (y : Int) (vs : List (Value × Value × Value)) : List (Array Value) := vs.mapIdx fun i u => rzRow (vRz C y i) u
theorem rzRows_len (C : Cat) (y : Int) (vs : List (Value × Value × Value)) : (rzRows C y vs).length = vs.length := by simp [rzRows]
theorem rzRows_snoc (C : Cat) (y : Int) (vs : List (Value × Value × Value)) (u : Value × Value × Value) : rzRows C y (vs ++ [u]) = rzRows C y vs ++ [rzRow (vRz C y vs.length) u] := by
  unfold rzRows; rw [List.mapIdx_append]; simp
theorem rzRows_at {C : Cat} {y : Int} {vs : List (Value × Value × Value)} {k : Nat} {u : Value × Value × Value} (h : vs[k]? = some u) : (rzRows C y vs)[k]? = some (rzRow (vRz C y k) u) := by
  unfold rzRows; rw [List.getElem?_mapIdx, h]; rfl
structure Three (W : World) (base : Nat) (r : Rz) (u : Value × Value × Value) : Prop where
  oc : Own W base 3 1 u.1 (intRows r.cm)
  oo : Own W base 3 1 u.2.1 (intRows r.om)
  oi : Own W base 3 1 u.2.2 (intRows r.im)
theorem Three.below {W W2 : World} {base : Nat} {r : Rz} {u : Value × Value × Value} (h : Three W base r u) (hb : Below W.heap.size W W2) : Three W2 base r u := ⟨h.oc.below hb, h.oo.below hb, h.oi.below hb⟩
theorem Three.less {W : World} {base b : Nat} {r : Rz} {u : Value × Value × Value} (h : Three W base r u) (hb : b ≤ base) : Three W b r u := ⟨h.oc.less hb, h.oo.less hb, h.oi.less hb⟩
theorem Three.kept {W W2 : World} {base g : Nat} {r : Rz} {u : Value × Value × Value} {cs : Array Value} {t : TypeId} (h : Three W base r u) (hg : W.grownBy W2 (some g)) (hb : Blk W g cs t) (ht : 3 ≠ t) : Three W2 base r u := ⟨h.oc.kept hg (.inr (h.oc.ne_blk hb ht)), h.oo.kept hg (.inr (h.oo.ne_blk hb ht)), h.oi.kept hg (.inr (h.oi.ne_blk hb ht))⟩
theorem Three.own {W W2 : World} {base b e sz : Nat} {v : Value} {rows : List (Array Value)} {r : Rz} {u : Value × Value × Value} (h : Three W base r u) (hv : Own W b e sz v rows) (hg : W.grownBy W2 v.ownBlock) (ht : 3 ≠ e) : Three W2 base r u := ⟨h.oc.kept hg (h.oc.apart_ty hv ht), h.oo.kept hg (h.oo.apart_ty hv ht), h.oi.kept hg (h.oi.apart_ty hv ht)⟩
theorem Three.form {W : World} {base : Nat} {r : Rz} {u : Value × Value × Value} (h : Three W base r u) : ∃ a n c a1 n1 c1 a2 n2 c2, u = (.slice a n c, .slice a1 n1 c1, .slice a2 n2 c2) := by
  obtain ⟨x, y, z⟩ := u
  obtain ⟨_, _, _, e1⟩ := h.oc.named
  obtain ⟨_, _, _, e2⟩ := h.oo.named
  obtain ⟨_, _, _, e3⟩ := h.oi.named
  simp only at e1 e2 e3
  subst e1 e2 e3
  exact ⟨_, _, _, _, _, _, _, _, _, rfl⟩
/-- The days of a year, resolved, in memory. -/
structure DyRes (W : World) (base : Nat) (C : Cat) (y : Int) (k : Nat) (v : Value) (vs : List (Value × Value × Value)) : Prop where
  out : Own W base 117 7 v (rzRows C y vs)
  len : vs.length = k
  ins : ∀ (i : Nat) (u : Value × Value × Value), vs[i]? = some u → Three W base (vRz C y i) u
section
variable {W W2 : World} {base : Nat} {C : Cat} {y : Int} {k : Nat} {v v1 : Value} {vs : List (Value × Value × Value)}
theorem DyRes.below (h : DyRes W base C y k v vs) (hb : Below W.heap.size W W2) : DyRes W2 base C y k v vs := ⟨h.out.below hb, h.len, fun i u hu => (h.ins i u hu).below hb⟩
theorem DyRes.less {b : Nat} (h : DyRes W base C y k v vs) (hb : b ≤ base) : DyRes W b C y k v vs := ⟨h.out.less hb, h.len, fun i u hu => (h.ins i u hu).less hb⟩
theorem DyRes.kept {g : Nat} {cs : Array Value} {t : TypeId} (h : DyRes W base C y k v vs) (hg : W.grownBy W2 (some g)) (hb : Blk W g cs t) (h1 : 3 ≠ t) (h2 : 117 ≠ t) : DyRes W2 base C y k v vs := ⟨h.out.kept hg (.inr (h.out.ne_blk hb h2)), h.len, fun i u hu => (h.ins i u hu).kept hg hb h1⟩
theorem DyRes.nil (W : World) (base : Nat) (C : Cat) (y : Int) : DyRes W base C y 0 (.slice none 0 0) [] := ⟨Own.nil _ _ _ _, rfl, fun i u h => by cases h⟩
theorem DyRes.app (h : DyRes W base C y k v vs) {u : Value × Value × Value} (hu : Three W base (vRz C y k) u) (ho : Own W2 base 117 7 v1 (rzRows C y vs ++ [rzRow (vRz C y k) u])) (hg : W.grownBy W2 v.ownBlock) : DyRes W2 base C y (k + 1) v1 (vs ++ [u]) := by
  refine ⟨by rw [rzRows_snoc, h.len]; exact ho, by simp [h.len], fun i x hx => ?_⟩
  rcases Nat.lt_or_ge i vs.length with hi | hi
  · rw [List.getElem?_append_left hi] at hx
    exact (h.ins i x hx).own h.out hg (by decide)
  · rw [List.getElem?_append_right hi] at hx
    have : i = k := by
      have := (List.getElem?_eq_some_iff.1 hx).1
      simp at this; have := h.len; omega
    subst this
    rw [h.len, Nat.sub_self] at hx
    cases hx
    exact hu.own h.out hg (by decide)
end
theorem cands_ok {C : Cat} (hG : C.Good) (y d : Int) : CdOk C (vCands C y d) := fun x hx h2 => by
  rcases List.mem_cons.1 hx with rfl | hx
  · simp [vTemp] at h2
  · obtain ⟨p, hp, hq⟩ := List.mem_filterMap.1 hx
    have hm := List.mem_zipIdx hp
    obtain ⟨_, h3⟩ := feaC_at hq
    have h4 := hm.2.1
    rw [List.length_take] at h4
    omega
theorem cands_len {C : Cat} (hG : C.Good) (y d : Int) : 1 ≤ (vCands C y d).length ∧ (vCands C y d).length ≤ 32 := by
  have := prop_len hG y d
  simp only [vCands, List.length_cons]; omega
theorem own_app_lies {P : Program} {ops : Array Oper} {o : Oper} {a : Act} {K : Act → World → Prop} {Q : Exit → Act → World → Prop} {E : Prop} {W : World} {base sz bytes : Nat} {z : Value} {rows : List (Array Value)} (t e : TypeId) (hgd : o.guard = none) (s x : Operand)
    (ho : o.op = .call { callee := .builtin .append, args := #[s, x], argTypes := #[t, t] })
    (ht : P.underlying t = some (.slice e)) (hinfo : (P.info? e).map (fun i => (i.zero, i.size, i.bytes)) = some (some z, sz, bytes)) (hz : z.cells.size = sz) (hsz : 0 < sz) (hb0 : 0 < bytes)
    (v : Value) (hs : a.eval s = v) (cs : Array Value) (hx : a.eval x = .slice (some ⟨W.heap.size, 0, none⟩) 1 1) (hcs : cs.size = sz) (h1 : ∀ u ∈ cs.toList, u.oneCell' = true)
    (HO : Own W base e sz v rows) (hbase : base ≤ W.heap.size) (hl : (rows.length + 1) * bytes ≤ 140737488355328)
    (h : ∀ v1 w1, Own w1 base e sz v1 (rows ++ [cs]) → Below base W w1 → W.grownBy w1 v.ownBlock → K (a.put o.dst v1) w1) :
    if Region.wanted o (yielded ops a.tmps) = true then Oper.wp P o a (W.alloc (.cells cs e)) K Q else E := by
  obtain ⟨i0, hi, hzz⟩ := Option.map_eq_some_iff.1 hinfo
  simp only [Prod.mk.injEq] at hzz
  obtain ⟨hz0, hz1, hz2⟩ := hzz
  have hlen : rows.length + 1 ≤ 140737488355328 := Nat.le_trans (Nat.le_mul_of_pos_right _ hb0) hl
  refine step_append_lies _ hgd s x t ho base e i0 z sz bytes ht hi hz0 hz1 hz2 hz hsz v rows.length _ hs (HO.1.alloc _) ⟨W.heap.size, 0, none⟩ 1 1 cs.toList hx (by simp [hcs])
    (World.news_of_block (cs := cs) (t := e) (fr := (0, 0)) (heap_alloc_new W _)) h1 (by omega) (by simp only [maxLen]; omega) hl (by simp; omega) _ rfl ?_
  intro gg cap w1 hown hg hat hlt
  refine h _ w1 ⟨by simpa using hown, fun r hr => ?_⟩ (((Below.refl base W).alloc hbase _).grown hg (by simp; omega) (own_base HO.1)) (World.grownBy.trans (World.grownBy_alloc W _ _) hg)
  rcases List.mem_append.1 hr with hr | hr
  · exact HO.2 r hr
  · simp at hr; rw [hr]; exact hcs
theorem info117 : (Tryz.prog.info? 117).map (fun i => (i.zero, i.size, i.bytes)) = some (some (.agg #[.int .i64 0, .int .i64 0, .int .i64 0, .string ⟨#[]⟩, .slice none 0 0, .slice none 0 0, .slice none 0 0]), 7, 112) := by kernel_rfl
theorem gr_low {w W W2 : World} {g : Nat} (h : w.grownBy W (some g)) (hb : Below w.heap.size W W2) : w.grownBy W2 (some g) :=
  ⟨hb.os.trans h.os, hb.tape.trans h.tape, hb.output.trans h.output, Nat.le_trans h.size hb.size, fun k hk hn => (hb.block k hk).trans (h.block k hk hn)⟩
theorem gr_of {w W : World} (g : Nat) (hb : Below w.heap.size w W) : w.grownBy W (some g) := gr_low (World.grownBy.refl _ _) hb
structure BrBox (w W : World) (g : Nat) (C : Cat) (A1 : Option Addr) (n1 c1 : Nat) (A2 : Option Addr) (n2 c2 : Nat) (y : Int) (V0 : Value) (us : List Value) (k : Nat) (v : Value) (vs : List (Value × Value × Value)) : Prop where
  bel : Below g w W
  sz : w.heap.size ≤ W.heap.size
  bd : Blk W g (bdCells C A1 n1 c1 A2 n2 c2 y 0 v (.slice none 0 0) 0 (.slice none 0 0)) 80
  dy : DyRes W w.heap.size C y k v vs
  yr : YrRes W w.heap.size C y (vDays y) V0 us
  gr : w.grownBy W (some g)
theorem BrBox.below {w W W2 : World} {g : Nat} {C : Cat} {A1 : Option Addr} {n1 c1 : Nat} {A2 : Option Addr} {n2 c2 : Nat} {y : Int} {V0 : Value} {us : List Value} {k : Nat} {v : Value} {vs : List (Value × Value × Value)} (h : BrBox w W g C A1 n1 c1 A2 n2 c2 y V0 us k v vs) (hb : Below W.heap.size W W2) : BrBox w W2 g C A1 n1 c1 A2 n2 c2 y V0 us k v vs :=
  ⟨below_then h.bel (Nat.le_of_lt h.bd.lt) hb, Nat.le_trans h.sz hb.size, h.bd.below hb, h.dy.below hb, h.yr.below hb, gr_low h.gr (hb.mono h.sz)⟩
theorem rz_one {W : World} {b : Nat} {r : Rz} {u : Value × Value × Value} (h : Three W b r u) : ∀ x ∈ (rzRow r u).toList, x.oneCell' = true := fun x hx => by
  obtain ⟨a, n, c, a1, n1, c1, a2, n2, c2, rfl⟩ := h.form
  simp only [rzRow, List.mem_cons, List.not_mem_nil, or_false] at hx
  rcases hx with rfl | rfl | rfl | rfl | rfl | rfl | rfl <;> rfl
structure BrMid (w W : World) (g : Nat) (C : Cat) (A1 : Option Addr) (n1 c1 : Nat) (A2 : Option Addr) (n2 c2 : Nat) (y : Int) (V0 : Value) (us : List Value) (k : Nat) (v v1 : Value) (vs : List (Value × Value × Value)) : Prop where
  bel : Below g w W
  sz : w.heap.size ≤ W.heap.size
  bd : Blk W g (bdCells C A1 n1 c1 A2 n2 c2 y 0 v (.slice none 0 0) 0 (.slice none 0 0)) 80
  dy : DyRes W w.heap.size C y k v1 vs
  yr : YrRes W w.heap.size C y (vDays y) V0 us
  gr : w.grownBy W (some g)
section
variable {w W W2 : World} {g : Nat} {C : Cat} {A1 : Option Addr} {n1 c1 : Nat} {A2 : Option Addr} {n2 c2 : Nat} {y : Int} {V0 : Value} {us : List Value} {k : Nat} {v v1 : Value} {vs : List (Value × Value × Value)}
theorem BrBox.app (h : BrBox w W g C A1 n1 c1 A2 n2 c2 y V0 us k v vs) (hgl : g < w.heap.size) {b : Nat} {u : Value × Value × Value} (hu : Three W b (vRz C y k) u) (hb : w.heap.size ≤ b) (ho : Own W2 w.heap.size 117 7 v1 (rzRows C y vs ++ [rzRow (vRz C y k) u])) (hbe : Below w.heap.size W W2) (hg : W.grownBy W2 v.ownBlock) :
    BrMid w W2 g C A1 n1 c1 A2 n2 c2 y V0 us (k + 1) v v1 (vs ++ [u]) :=
  ⟨h.bel.trans (hbe.mono (Nat.le_of_lt hgl)), Nat.le_trans h.sz hbe.size, h.bd.grown hg (fun e => by have := (h.dy.out.block g e).1; omega), h.dy.app (hu.less hb) ho hg,
    ⟨h.yr.out.kept hg (h.yr.out.apart_ty h.dy.out (by decide)), h.yr.len, fun i x hx => (h.yr.ins i x hx).kept hg ((h.yr.ins i x hx).apart_ty h.dy.out (by decide))⟩, gr_low h.gr hbe⟩
theorem BrMid.put (h : BrMid w W g C A1 n1 c1 A2 n2 c2 y V0 us k v v1 vs) : BrBox w (W.setCell ⟨g, 5, none⟩ v1) g C A1 n1 c1 A2 n2 c2 y V0 us k v1 vs :=
  ⟨h.bel.setCell (Nat.le_refl _) _, Nat.le_trans h.sz (gs_set W g 5 v1).size, h.bd.put 5 _ rfl, h.dy.kept (gs_set _ _ _ _) h.bd (by decide) (by decide),
    ⟨h.yr.out.kept (gs_set _ _ _ _) (.inr (h.yr.out.ne_blk h.bd (by decide))), h.yr.len, fun i x hx => (h.yr.ins i x hx).kept (gs_set _ _ _ _) (.inr ((h.yr.ins i x hx).ne_blk h.bd (by decide)))⟩, h.gr.trans (gs_set _ _ _ _)⟩
end
set_option maxRecDepth 20000 in
set_option maxHeartbeats 1000000 in
theorem oresolve_c (C : Cat) (A1 : Option Addr) (n1 c1 : Nat) (A2 : Option Addr) (n2 c2 : Nat) (y : Int) (g : Nat) (w : World) (hW : Hid (∀ W, Below g w W → Tabs W ∧ CatIn W C A1 n1 c1 A2 n2 c2)) (hb : Hid (Blk w g (bdCells C A1 n1 c1 A2 n2 c2 y 0 (.slice none 0 0) (.slice none 0 0) 0 (.slice none 0 0)) 80)) (hG : Hid C.Good) (y1 : 1583 ≤ y) (y2 : y ≤ 1000000000) :
    Calls Tryz.prog 30 #[.pointer (some ⟨g, 0, none⟩)] w fun e w' => ∃ v vs, e = .returned (.int .i64 0) ∧ (Blk w' g (bdCells C A1 n1 c1 A2 n2 c2 y (vFirst y) v (.slice none 0 0) 0 (.slice none 0 0)) 80 ∧ DyRes w' w.heap.size C y (vDays y) v vs) ∧ w.grownBy w' (some g) := by
  obtain ⟨p1, p2⟩ := year_start y1 y2
  have P1 := Lib.hid p1
  have P2 := Lib.hid p2
  clear p1 p2
  have gl := hb.out.lt
  have gle : g ≤ w.heap.size := Nat.le_of_lt gl
  have x0 : w.cell? ⟨g, 0, none⟩ = some (.int .i64 C.free) := hb.out.cell 0
  go_enter Tryz.func30, Tryz.ntmps30
  go_upto_region 1 with fail
  have hB : Below w.heap.size w w.drew := (Below.refl _ _).drew
  have HC : ∀ V, Below w.heap.size w V → V.cell? ⟨g, 0, none⟩ = some (.int .i64 C.free) ∧ V.cell? ⟨g, 1, none⟩ = some (.slice A1 n1 c1) ∧ V.cell? ⟨g, 2, none⟩ = some (.slice A2 n2 c2) ∧ V.cell? ⟨g, 3, none⟩ = some (.int .i64 y) := fun V h => ⟨(hb.out.below h).cell 0, (hb.out.below h).cell 1, (hb.out.below h).cell 2, (hb.out.below h).cell 3⟩
  obtain ⟨x0, x1, x2, x3⟩ := HC _ (Below.refl _ _)
  go_region_held3 (fun w' => w'.cell? ⟨g, 0, none⟩ = some (.int .i64 C.free) ∧ w'.cell? ⟨g, 1, none⟩ = some (.slice A1 n1 c1) ∧ w'.cell? ⟨g, 2, none⟩ = some (.slice A2 n2 c2) ∧ w'.cell? ⟨g, 3, none⟩ = some (.int .i64 y))
    (first | (with_reducible exact HC _ hB))
    (first
      | (go_at_call 58; (with_reducible refine (cyear_c C _ _ _ _ _ _ y _ (Lib.hid (hW.out _ (hB.mono gle)).1) (Lib.hid (hW.out _ (hB.mono gle)).2) hG y1 y2).mono ?_); rintro e w1 ⟨v, vs, rfl, hr, hb1⟩; obtain ⟨a1, m1, c1', rfl⟩ := hr.out.named; have HR := Lib.hid (hr.less hB.size); clear hr; (with_reducible replace hB := hB.trans (hb1.mono hB.size))))
  have HL : Hid (BrBox w w1 g C A1 n1 c1 A2 n2 c2 y (.slice a1 m1 c1') vs 0 (.slice none 0 0) []) := Lib.hid ⟨hB.mono gle, hB.size, hb.out.below hB, DyRes.nil _ _ _ _, HR.out, gr_of g hB⟩
  have hm : Hid (m1 = vDays y) := Lib.hid (by
    obtain ⟨A, c, he, _⟩ := HR.out.out.form
    simp only [Value.slice.injEq, List.length_map, HR.out.len] at he
    exact he.2.1)
  have m400 : m1 ≤ 400 := by
    have h := hm.out
    have := lp01 (vLeap y)
    unfold vDays at h
    omega
  clear HR x0 x1 x2 x3 hB
  go_wp2_with fail
  go_loopw [21] (fun i wr => ∃ (k : Nat) (v : Value) (rs : List (Value × Value × Value)), k ≤ m1 ∧ i = .int .i64 k ∧ Hid (BrBox w wr g C A1 n1 c1 A2 n2 c2 y (.slice a1 m1 c1') vs k v rs)) (fun i _ => (m1 - intOf i).toNat)
  case atStart => exact ⟨0, _, _, by omega, rfl, HL⟩
  case round =>
    clear HL
    obtain ⟨k, v, rs, k1, rfl, HL⟩ := hrel
    by_cases hk : k < m1
    · obtain ⟨u, hu⟩ : ∃ u, vs[k]? = some u := ⟨_, List.getElem?_eq_getElem (by have := HL.out.yr.len; have := hm.out; omega)⟩
      have ho := HL.out.yr.ins k u hu
      have hr : (vs.map fun u => #[u])[k]? = some #[u] := by rw [List.getElem?_map, hu]; rfl
      obtain ⟨ga, ca, he, _, _, _, _⟩ := HL.out.yr.out.cell hr
      simp only [Value.slice.injEq] at he
      obtain ⟨rfl, -, -⟩ := he
      have cl := HL.out.yr.out.at1 (g := ga) rfl k u hr
      have bl := (HL.out.yr.out.block ga rfl).2
      obtain ⟨q1, q2⟩ := cands_len hG.out y (vFirst y + k)
      obtain ⟨ub, uc, rfl⟩ : ∃ ub uc, u = .slice (some ⟨ub, 0, none⟩) (vCands C y (vFirst y + k)).length uc := by
        obtain ⟨g', cap, he, _⟩ := ho.cell (k := 0) (List.getElem?_eq_getElem (by simp [candRows]; omega))
        refine ⟨g', cap, ?_⟩
        rw [he]; simp [candRows]
      have HO := Lib.hid ho
      have HT := Lib.hid (cands_tot C y (vFirst y + k))
      have HOK := Lib.hid (cands_ok hG.out y (vFirst y + k))
      obtain ⟨cn, hcn⟩ : ∃ cn, (vCands C y (vFirst y + k)).length = cn := ⟨_, rfl⟩
      rw [hcn] at cl q1 q2 HO
      have HCN := Lib.hid hcn.symm
      have hk' : (k : Int) < m1 := by omega
      clear hu ho hr hcn
      have HD := Lib.hid (HL.out.below (Below.refl _ _).drew)
      have x0 : wr.cell? ⟨g, 0, none⟩ = some (.int .i64 C.free) := HL.out.bd.cell 0
      have x1 : wr.cell? ⟨g, 1, none⟩ = some (.slice A1 n1 c1) := HL.out.bd.cell 1
      have x2 : wr.cell? ⟨g, 2, none⟩ = some (.slice A2 n2 c2) := HL.out.bd.cell 2
      have x5 : wr.cell? ⟨g, 5, none⟩ = some v := HL.out.bd.cell 5
      have xl := HL.out.bd.lt
      go_upto_region 5 with fail
      go_region_law (first | (go_simp; go_at_call 59; refine (resolve_c C _ _ _ _ _ _ (vCands C y (vFirst y + k)) _ cn uc w.heap.size _ (Lib.hid (hW.out _ HD.out.bel).2) hG (Lib.hid (HO.out.below (Below.refl _ _).drew)) HT HCN q1 q2 ⟨_, rfl⟩ HOK).mono ?_; rintro e w5 ⟨vc, vo, vi, rfl, ⟨o1, o2, o3⟩, hb5⟩; have HD5 := Lib.hid (HD.out.below hb5); clear hb5; have y5 : w5.cell? ⟨g, 5, none⟩ = some v := HD5.out.bd.cell 5; have yl := HD5.out.bd.lt; have RO : Hid (∀ u ∈ (rzRow (vRz C y k) (vc, vo, vi)).toList, u.oneCell' = true) := Lib.hid (rz_one ⟨o1, o2, o3⟩); have SM : Hid (((rzRows C y rs).length + 1) * 112 ≤ 140737488355328) := Lib.hid (by rw [rzRows_len, HD5.out.dy.len]; omega)) | (refine own_app_lies 77 117 rfl _ _ rfl Tryz.underlying77 info117 rfl (by decide) (by decide) v rfl (rzRow (vRz C y k) (vc, vo, vi)) rfl rfl RO.out HD5.out.dy.out HD5.out.sz SM.out ?_; intro v6 w6 ho6 hb6 hg6; have HN := Lib.hid (HD5.out.app gl (u := (vc, vo, vi)) ⟨o1, o2, o3⟩ HL.out.sz ho6 hb6 hg6); obtain ⟨a6, m6, c6, rfl⟩ := ho6.named; have z5 : w6.cell? ⟨g, 5, none⟩ = some v := HN.out.bd.cell 5; have zf := HN.out.bd.frozen 5; clear ho6 hb6 hg6))
      all_goals
        go_wp2_with fail
        exact ⟨⟨k + 1, _, _, by omega, by go_num, Lib.hid HN.out.put⟩, by simp [intOf]; omega⟩
    · have KM : Hid (k = vDays y) := Lib.hid (by have := hm.out; omega)
      have x3 : wr.cell? ⟨g, 3, none⟩ = some (.int .i64 y) := HL.out.bd.cell 3
      have x4 : wr.cell? ⟨g, 4, none⟩ = some (.int .i64 0) := HL.out.bd.cell 4
      have f4 := HL.out.bd.frozen 4
      have xl := HL.out.bd.lt
      go_wp2_with (first | (go_at_call 60; with_reducible refine (First_c y _).mono ?_; rintro e w8 ⟨rfl, rfl⟩; rw [P1.out, P2.out]))
      go_ret
      refine ⟨v, rs, rfl, ⟨HL.out.bd.put 4 _ rfl, ?_⟩, HL.out.gr.trans (gs_set _ _ _ _)⟩
      rw [← KM.out]
      exact HL.out.dy.kept (gs_set _ _ _ _) HL.out.bd (by decide) (by decide)
end Go.Proofs.YtdgaflcnigljlaaGreatDoor
/-
  Contracts of package ordo: the impeded feasts moved. At builders of calendars of small well-formed catalogues. No further condition.
-/
namespace Go.Proofs.YtdgaflcnigljlaaGreatDoor
open Go.RowKit Go.Proofs Go.MapKept Go.Proofs.YtdgaflcnigljlaaGreatDoorW.PrintWords
set_option linter.unusedVariables false
def vFreeL (C : Cat) (y : Int) (n : Nat) : List Bool := (List.range n).map fun i => decide (C.free < (vRz C y i).p.rank)
def vImpL (C : Cat) (y : Int) (n : Nat) : List (List Int) := (List.range n).map fun i => (vRz C y i).im
theorem vFreeL_succ (C : Cat) (y : Int) (n : Nat) : bRows (vFreeL C y (n + 1)) = bRows (vFreeL C y n) ++ [#[.bool (decide (C.free < (vRz C y n).p.rank))]] := by
  simp [vFreeL, bRows, List.range_succ]
theorem vFreeL_len (C : Cat) (y : Int) (n : Nat) : (vFreeL C y n).length = n := by simp [vFreeL]
theorem vImpL_len (C : Cat) (y : Int) (n : Nat) : (vImpL C y n).length = n := by simp [vImpL]
theorem vImpL_at (C : Cat) (y : Int) (n i : Nat) (h : i < n) : (vImpL C y n)[i]? = some (vRz C y i).im := by
  simp [vImpL, h]
theorem im_len {C : Cat} (hG : C.Good) (y : Int) (i : Nat) : (vRz C y i).im.length ≤ 31 := by
  refine Nat.le_trans (vPol_len _ _ _) ?_
  have h1 := (cands_len hG y (vFirst y + i)).2
  have h2 := (vSort_perm (vCands C y (vFirst y + i))).length_eq
  rw [List.length_drop]; unfold vLine; omega
theorem info4 : (Tryz.prog.info? 4).map (fun i => (i.zero, i.size, i.bytes)) = some (some (.bool false), 1, 1) := by kernel_rfl
theorem info36 : (Tryz.prog.info? 36).map (fun i => (i.zero, i.size, i.bytes)) = some (some (.slice none 0 0), 1, 24) := by kernel_rfl
theorem bool_one (b : Bool) : ∀ u ∈ (#[Value.bool b] : Array Value).toList, u.oneCell' = true := fun u hu => by
  simp only [List.mem_cons, List.not_mem_nil, or_false] at hu
  subst hu; rfl
theorem slice_one (a : Option Addr) (n c : Nat) : ∀ u ∈ (#[Value.slice a n c] : Array Value).toList, u.oneCell' = true := fun u hu => by
  simp only [List.mem_cons, List.not_mem_nil, or_false] at hu
  subst hu; rfl
def imVals (vs : List (Value × Value × Value)) (k : Nat) : List (Array Value) := ((vs.take k).map fun u => u.2.2).map fun u => #[u]
theorem imVals_succ {vs : List (Value × Value × Value)} {k : Nat} {u : Value × Value × Value} (h : vs[k]? = some u) : imVals vs (k + 1) = imVals vs k ++ [#[u.2.2]] := by
  unfold imVals; rw [take_at h, List.map_append, List.map_append]; rfl
theorem imVals_len {vs : List (Value × Value × Value)} {k : Nat} (h : k ≤ vs.length) : (imVals vs k).length = k := by
  simp [imVals]; omega
structure TrBox (w W : World) (g : Nat) (bc : Array Value) (b0 : Nat) (C : Cat) (y : Int) (N : Nat) (v : Value) (vs : List (Value × Value × Value)) (k : Nat) (vf vi : Value) : Prop where
  bel : Below w.heap.size w W
  bd : Blk W g bc 80
  dy : DyRes W b0 C y N v vs
  fr : Own W w.heap.size 4 1 vf (bRows (vFreeL C y k))
  im : Own W w.heap.size 36 1 vi (imVals vs k)
section
variable {w W W2 : World} {g : Nat} {bc : Array Value} {b0 : Nat} {C : Cat} {y : Int} {N : Nat} {v : Value} {vs : List (Value × Value × Value)} {k : Nat} {vf vi v1 : Value}
theorem TrBox.below (h : TrBox w W g bc b0 C y N v vs k vf vi) (hb : Below W.heap.size W W2) : TrBox w W2 g bc b0 C y N v vs k vf vi := ⟨below_then h.bel h.bel.size hb, h.bd.below hb, h.dy.below hb, h.fr.below hb, h.im.below hb⟩
/-- Behind the first append. -/
structure TrMid (w W : World) (g : Nat) (bc : Array Value) (b0 : Nat) (C : Cat) (y : Int) (N : Nat) (v : Value) (vs : List (Value × Value × Value)) (k : Nat) (vf vi : Value) : Prop where
  bel : Below w.heap.size w W
  bd : Blk W g bc 80
  dy : DyRes W b0 C y N v vs
  fr : Own W w.heap.size 4 1 vf (bRows (vFreeL C y (k + 1)))
  im : Own W w.heap.size 36 1 vi (imVals vs k)
theorem DyRes.far {b : Nat} {u : Value} {e sz : Nat} {rows : List (Array Value)} (h : DyRes W b0 C y N v vs) (hu : Own W b e sz u rows) (h1 : 3 ≠ e) (h2 : 117 ≠ e) (hg : W.grownBy W2 u.ownBlock) : DyRes W2 b0 C y N v vs :=
  ⟨h.out.kept hg (h.out.apart_ty hu h2), h.len, fun i x hx => (h.ins i x hx).own hu hg h1⟩
theorem TrBox.app (h : TrBox w W g bc b0 C y N v vs k vf vi) (hgl : g < w.heap.size) (ho : Own W2 w.heap.size 4 1 v1 (bRows (vFreeL C y k) ++ [#[.bool (decide (C.free < (vRz C y k).p.rank))]])) (hb : Below w.heap.size W W2) (hg : W.grownBy W2 vf.ownBlock) : TrMid w W2 g bc b0 C y N v vs k v1 vi :=
  ⟨h.bel.trans hb, h.bd.grown hg (fun e => by have := (h.fr.block g e).1; omega), h.dy.far h.fr (by decide) (by decide) hg, by rw [vFreeL_succ]; exact ho, h.im.kept hg (h.im.apart_ty h.fr (by decide))⟩
theorem TrMid.app (h : TrMid w W g bc b0 C y N v vs k vf vi) (hgl : g < w.heap.size) {u : Value × Value × Value} (hu : vs[k]? = some u) (ho : Own W2 w.heap.size 36 1 v1 (imVals vs k ++ [#[u.2.2]])) (hb : Below w.heap.size W W2) (hg : W.grownBy W2 vi.ownBlock) : TrBox w W2 g bc b0 C y N v vs (k + 1) vf v1 :=
  ⟨h.bel.trans hb, h.bd.grown hg (fun e => by have := (h.im.block g e).1; omega), h.dy.far h.im (by decide) (by decide) hg, h.fr.kept hg (h.fr.apart_ty h.im (by decide)), by rw [imVals_succ hu]; exact ho⟩
end
theorem DyRes.imp {W : World} {b0 : Nat} {C : Cat} {y : Int} {N : Nat} {v : Value} {vs : List (Value × Value × Value)} (h : DyRes W b0 C y N v vs) : ImpIn W b0 (vImpL C y N) ((vs.take N).map fun u => u.2.2) := by
  refine ⟨by rw [vImpL_len, List.length_map, List.length_take, h.len]; omega, fun i u hu => ?_⟩
  rw [List.take_of_length_le (by rw [h.len]; exact Nat.le_refl _), List.getElem?_map] at hu
  obtain ⟨x, hx, rfl⟩ := Option.map_eq_some_iff.1 hu
  have hi : i < N := by rw [← h.len]; exact (List.getElem?_eq_some_iff.1 hx).1
  exact ⟨_, vImpL_at C y N i hi, (h.ins i x hx).oi⟩
theorem ImpIn.less0 {W : World} {b : Nat} {imp : List (List Int)} {us : List Value} (h : ImpIn W b imp us) : ImpIn W 0 imp us := ⟨h.len, fun i u hu => by
  obtain ⟨l, h1, h2⟩ := h.ins i u hu
  exact ⟨l, h1, h2.less (Nat.zero_le _)⟩⟩
theorem im_all {C : Cat} (hG : C.Good) (y : Int) (n : Nat) : ∀ l ∈ vImpL C y n, l.length ≤ 1000 := fun l hl => by
  obtain ⟨i, _, rfl⟩ := List.mem_map.1 hl
  have := im_len hG y i
  omega
set_option maxRecDepth 20000 in
set_option maxHeartbeats 1000000 in
theorem otransfer_c (C : Cat) (A1 : Option Addr) (n1 c1 : Nat) (A2 : Option Addr) (n2 c2 : Nat) (y first : Int) (g b0 N : Nat) (v : Value) (vs : List (Value × Value × Value)) (w : World) (hb : Hid (Blk w g (bdCells C A1 n1 c1 A2 n2 c2 y first v (.slice none 0 0) 0 (.slice none 0 0)) 80)) (hG : Hid C.Good) (hD : Hid (DyRes w b0 C y N v vs)) (hN : 1 ≤ N ∧ N ≤ 400) (hg0 : g < b0) :
    Calls Tryz.prog 31 #[.pointer (some ⟨g, 0, none⟩)] w fun e w' => ((vAsg (vFreeL C y N) 0 [] (vImpL C y N) = none ∧ e = .returned (.int .i64 5)) ∨ ∃ out u, vAsg (vFreeL C y N) 0 [] (vImpL C y N) = some out ∧ e = .returned (.int .i64 0) ∧ (Blk w' g (bdCells C A1 n1 c1 A2 n2 c2 y first v u 0 (.slice none 0 0)) 80 ∧ DyRes w' b0 C y N v vs ∧ Own w' w.heap.size 153 3 u (mvRows out))) ∧ w.grownBy w' (some g) := by
  have gl := hb.out.lt
  have HB : Hid (TrBox w w g (bdCells C A1 n1 c1 A2 n2 c2 y first v (.slice none 0 0) 0 (.slice none 0 0)) b0 C y N v vs 0 (.slice none 0 0) (.slice none 0 0)) := Lib.hid ⟨Below.refl _ _, hb.out, hD.out, Own.nil _ _ _ _, Own.nil _ _ _ _⟩
  have x5 : w.cell? ⟨g, 5, none⟩ = some v := hb.out.cell 5
  obtain ⟨gd, cd, rfl⟩ : ∃ gd cd, v = .slice (some ⟨gd, 0, none⟩) N cd := by
    obtain ⟨g', cap, he, _⟩ := hD.out.out.cell (k := 0) (List.getElem?_eq_getElem (by rw [rzRows_len, hD.out.len]; exact hN.1))
    refine ⟨g', cap, ?_⟩
    rw [he, rzRows_len, hD.out.len]
  have N1 := hN.1
  have N2 := hN.2
  go_enter Tryz.func31, Tryz.ntmps31
  go_wp2_with fail
  go_loopw [3, 4, 12] (fun f m i wr => ∃ (k : Nat) (vf vi : Value), vf = f ∧ vi = m ∧ k ≤ N ∧ i = .int .i64 k ∧ Hid (TrBox w wr g (bdCells C A1 n1 c1 A2 n2 c2 y first (.slice (some ⟨gd, 0, none⟩) N cd) (.slice none 0 0) 0 (.slice none 0 0)) b0 C y N (.slice (some ⟨gd, 0, none⟩) N cd) vs k vf vi)) (fun _ _ i _ => (N - intOf i).toNat)
  case atStart => exact ⟨0, _, _, rfl, rfl, by omega, rfl, HB⟩
  case round =>
    clear HB x5
    obtain ⟨k, vf, vi, rfl, rfl, k1, rfl, HB⟩ := hrel
    by_cases hk : k < N
    · obtain ⟨u, hu⟩ : ∃ u, vs[k]? = some u := ⟨_, List.getElem?_eq_getElem (by have := hD.out.len; omega)⟩
      obtain ⟨a, n, c, a', n', c', a'', n'', c'', rfl⟩ := (hD.out.ins k u hu).form
      obtain ⟨g', cap, he, _, glt, _, hc⟩ := HB.out.dy.out.cell (rzRows_at hu)
      simp only [Value.slice.injEq, Option.some.injEq, Addr.mk.injEq, and_true] at he
      obtain ⟨rfl, -, -⟩ := he
      have r0 : wr.cell? ⟨gd, k * 7, none⟩ = some (.int .i64 (vRz C y k).p.kind) := (hc 0 (by omega)).1
      have r1 : wr.cell? ⟨gd, k * 7 + 1, none⟩ = some (.int .i64 (vRz C y k).p.idx) := (hc 1 (by omega)).1
      have r2 : wr.cell? ⟨gd, k * 7 + 2, none⟩ = some (.int .i64 (vRz C y k).p.rank) := (hc 2 (by omega)).1
      have r3 : wr.cell? ⟨gd, k * 7 + 3, none⟩ = some (.string (vRz C y k).p.id) := (hc 3 (by omega)).1
      have r4 : wr.cell? ⟨gd, k * 7 + 4, none⟩ = some (.slice a n c) := (hc 4 (by omega)).1
      have r5 : wr.cell? ⟨gd, k * 7 + 5, none⟩ = some (.slice a' n' c') := (hc 5 (by omega)).1
      have r6 : wr.cell? ⟨gd, k * 7 + 6, none⟩ = some (.slice a'' n'' c'') := (hc 6 (by omega)).1
      obtain ⟨r, hr⟩ : ∃ r, vRz C y k = r := ⟨_, rfl⟩
      rw [hr] at r0 r1 r2 r3
      have HR := Lib.hid hr
      have HU := Lib.hid hu
      have hk' : (k : Int) < N := by omega
      clear hu hc hr
      go_upto_region 6 with fail
      have HA := Lib.hid (HB.out.below ((Below.refl _ _).alloc (Nat.le_refl _) (.cells (rzRow r (.slice a n c, .slice a' n' c', .slice a'' n'' c'')) 117)))
      have PA := Lib.hid (Blk.new wr (rzRow r (.slice a n c, .slice a' n' c', .slice a'' n'' c'')) 117)
      clear HB r0 r1 r2 r3 r4 r5 r6
      simp only [rzRow] at HA PA
      generalize (wr.alloc (.cells #[.int .i64 r.p.kind, .int .i64 r.p.idx, .int .i64 r.p.rank, .string r.p.id, .slice a n c, .slice a' n' c', .slice a'' n'' c''] 117)) = WA at *
      generalize wr.heap.size = q at *
      go_cut [3] (fun v3 wx => ∃ v1, v1 = v3 ∧ Hid (TrMid w wx g (bdCells C A1 n1 c1 A2 n2 c2 y first (.slice (some ⟨gd, 0, none⟩) N cd) (.slice none 0 0) 0 (.slice none 0 0)) b0 C y N (.slice (some ⟨gd, 0, none⟩) N cd) vs k v1 vi) ∧ Hid (Blk wx q #[.int .i64 r.p.kind, .int .i64 r.p.idx, .int .i64 r.p.rank, .string r.p.id, .slice a n c, .slice a' n' c', .slice a'' n'' c''] 117))
      case first =>
        have x0 : WA.cell? ⟨g, 0, none⟩ = some (.int .i64 C.free) := HA.out.bd.cell 0
        have x1 : WA.cell? ⟨g, 1, none⟩ = some (.slice A1 n1 c1) := HA.out.bd.cell 1
        have x2 : WA.cell? ⟨g, 2, none⟩ = some (.slice A2 n2 c2) := HA.out.bd.cell 2
        have p0 : WA.cell? ⟨q, 0, none⟩ = some (.int .i64 r.p.kind) := PA.out.cell 0
        have p1 : WA.cell? ⟨q, 1, none⟩ = some (.int .i64 r.p.idx) := PA.out.cell 1
        have p2 : WA.cell? ⟨q, 2, none⟩ = some (.int .i64 r.p.rank) := PA.out.cell 2
        have p3 : WA.cell? ⟨q, 3, none⟩ = some (.string r.p.id) := PA.out.cell 3
        have p4 : WA.cell? ⟨q, 4, none⟩ = some (.slice a n c) := PA.out.cell 4
        have p5 : WA.cell? ⟨q, 5, none⟩ = some (.slice a' n' c') := PA.out.cell 5
        have p6 : WA.cell? ⟨q, 6, none⟩ = some (.slice a'' n'' c'') := PA.out.cell 6
        have HD := Lib.hid (HA.out.below (Below.refl _ _).drew)
        have SM : Hid (((bRows (vFreeL C y k)).length + 1) * 1 ≤ 140737488355328) := Lib.hid (by simp [bRows, vFreeL_len]; omega)
        go_region_law (first | (go_simp; go_at_call 61; refine (free_c C A1 n1 c1 A2 n2 c2 _ _ _ _ _ _ _ _).mono ?_; rintro e w5 ⟨rfl, hb5⟩; have HD5 := Lib.hid (HD.out.below hb5); have PA5 := Lib.hid (PA.out.drew.below hb5); clear hb5) | (refine own_app_lies 121 4 rfl _ _ rfl Tryz.underlying121 info4 rfl (by decide) (by decide) vf rfl #[_] rfl rfl (bool_one _) HD5.out.fr HD5.out.bel.size SM.out ?_; intro v6 w6 ho6 hb6 hg6; have HN := Lib.hid (HD5.out.app gl (by rw [HR.out]; exact ho6) hb6 hg6); have PN := Lib.hid (PA5.out.grown hg6 (HD5.out.fr.ne_blk PA5.out (by decide))); clear ho6 hb6 hg6))
        all_goals
          go_wp2_with fail
          go_meet
          exact ⟨_, rfl, HN, PN⟩
      case rest =>
        obtain ⟨v1, rfl, HM, HP⟩ := hcut
        clear HA PA
        have p6 : wc.cell? ⟨q, 6, none⟩ = some (.slice a'' n'' c'') := HP.out.cell 6
        have ql := HP.out.lt
        have SM : Hid (((imVals vs k).length + 1) * 24 ≤ 140737488355328) := Lib.hid (by rw [imVals_len (by rw [hD.out.len]; omega)]; omega)
        go_wp2_with (first | (at_builtin; refine own_app (w0 := wc) 122 36 rfl _ _ rfl Tryz.underlying122 info36 rfl (by decide) (by decide) vi rfl #[_] rfl rfl (slice_one _ _ _) HM.out.im (Below.refl _ _) HM.out.bel.size SM.out ?_; intro v7 w7 ho7 hb7 hg7 hat7; have HN := Lib.hid (HM.out.app gl HU.out ho7 hb7 hg7); clear ho7 hb7 hg7 hat7))
        exact ⟨⟨k + 1, v1, v7, rfl, rfl, by omega, by go_num, HN⟩, by simp [intOf]; omega⟩
    · obtain rfl : k = N := by omega
      have x6 : wr.cell? ⟨g, 6, none⟩ = some (.slice none 0 0) := HB.out.bd.cell 6
      have f6 := HB.out.bd.frozen 6
      obtain ⟨gf, cf, rfl⟩ : ∃ gf cf, vf = .slice (some ⟨gf, 0, none⟩) k cf := by
        obtain ⟨g', cap, he, _⟩ := HB.out.fr.cell (k := 0) (List.getElem?_eq_getElem (by simp [bRows, vFreeL_len]; omega))
        exact ⟨g', cap, by rw [he]; simp [bRows, vFreeL_len]⟩
      obtain ⟨gi, ci, rfl⟩ : ∃ gi ci, vi = .slice (some ⟨gi, 0, none⟩) k ci := by
        obtain ⟨g', cap, he, _⟩ := HB.out.im.cell (k := 0) (List.getElem?_eq_getElem (by rw [imVals_len (by rw [hD.out.len]; omega)]; omega))
        exact ⟨g', cap, by rw [he, imVals_len (by rw [hD.out.len]; omega)]⟩
      go_wp2_with fail
      refine (assign_c (vFreeL C y k) (vImpL C y k) gf gi k cf k ci ((vs.take k).map fun u : Value × Value × Value => u.2.2) 0 wr (Lib.hid (HB.out.fr.less (Nat.zero_le _))) (Lib.hid (HB.out.im.less (Nat.zero_le _))) (Lib.hid (HB.out.dy.imp.less0)) (vFreeL_len _ _ _) (vImpL_len _ _ _) rfl (by omega) (Lib.hid (im_all hG.out y k))).mono ?_
      rintro e w8 ⟨(⟨h1, rfl⟩ | ⟨out, u, h1, rfl, ho⟩), hb8⟩
      · have H1 := Lib.hid h1
        have HB8 := Lib.hid (HB.out.below hb8)
        clear h1 hb8 x6 f6
        have x6 : w8.cell? ⟨g, 6, none⟩ = some (.slice none 0 0) := HB8.out.bd.cell 6
        have f6 := HB8.out.bd.frozen 6
        go_wp2_with fail
        go_ret
        exact ⟨.inl ⟨H1.out, rfl⟩, (gr_of g HB8.out.bel).trans (gs_set _ _ _ _)⟩
      · have H1 := Lib.hid h1
        have HB8 := Lib.hid (HB.out.below hb8)
        obtain ⟨ma, mn, mc, rfl⟩ := ho.named
        have HO := Lib.hid (ho.less HB.out.bel.size)
        clear h1 hb8 ho x6 f6
        have x6 : w8.cell? ⟨g, 6, none⟩ = some (.slice none 0 0) := HB8.out.bd.cell 6
        have f6 := HB8.out.bd.frozen 6
        go_wp2_with fail
        go_ret
        exact ⟨.inr ⟨out, _, H1.out, rfl, HB8.out.bd.put 6 _ rfl, HB8.out.dy.kept (gs_set _ _ _ _) HB8.out.bd (by decide) (by decide), HO.out.kept (gs_set _ _ _ _) (.inr (HO.out.ne_blk HB8.out.bd (by decide)))⟩, (gr_of g HB8.out.bel).trans (gs_set _ _ _ _)⟩
end Go.Proofs.YtdgaflcnigljlaaGreatDoor
