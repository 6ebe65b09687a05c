/-
  Contracts and plain facts for the laws on the whole program: the parts below say each what they are. No further condition.
-/
import Derived.Test.YtdgaflcnigljlaaGreatDoorS14
import Derived.BigRegion
set_option linter.unusedSimpArgs false
/-
  Contracts of package candidate: the feasts of a year by their days. At well-formed small catalogues, years from 1583 to 1000000000. No further condition.
-/
namespace Go.Proofs.YtdgaflcnigljlaaGreatDoor
open Go.RowKit Go.Proofs Go.MapKept Go.Proofs.YtdgaflcnigljlaaGreatDoorW.PrintWords
set_option linter.unusedVariables false
theorem info115 : (Tryz.prog.info? 115).map (fun i => (i.zero, i.size, i.bytes)) = some (some (.agg #[.int .i64 0, .int .i64 0, .int .i64 0, .string ⟨#[]⟩]), 4, 40) := by kernel_rfl
theorem z114 (w : World) : (zeroValue 114).run Tryz.prog w = .ok (.slice none 0 0) w := by kernel_rfl
def feaC (y d : Int) (p : Fea × Nat) : Option Cand := if p.1.at_.day y = d then some ⟨2, p.2, p.1.rank, p.1.id⟩ else none
/-- The feasts among the first k that fall on a day. -/
def vPropL (C : Cat) (y : Int) (k : Nat) (d : Int) : List Cand := (C.feas.take k).zipIdx.filterMap (feaC y d)
theorem vPropL_succ {C : Cat} {y : Int} {k : Nat} {s : Fea} (h : C.feas[k]? = some s) (d : Int) : vPropL C y (k + 1) d = vPropL C y k d ++ if s.at_.day y = d then [⟨2, k, s.rank, s.id⟩] else [] := by
  have hk : k < C.feas.length := (List.getElem?_eq_some_iff.1 h).1
  unfold vPropL
  rw [List.take_add_one, h, Option.toList_some, List.zipIdx_append, List.filterMap_append, List.length_take]
  congr 1
  simp only [List.zipIdx_singleton, List.filterMap_cons, List.filterMap_nil, feaC, Nat.zero_add]
  rw [show min k C.feas.length = k by omega]
  split <;> simp_all
def pvF (C : Cat) (y : Int) (k : Nat) (V : Int → Value) (d : Int) : Option Value := if vPropL C y k d = [] then none else some (V d)
structure PrBox (w W : World) (C : Cat) (A1 : Option Addr) (n1 c1 : Nat) (A2 : Option Addr) (n2 c2 : Nat) (y : Int) (k : Nat) (V : Int → Value) : Prop where
  bel : Below w.heap.size w W
  box : Blk W w.heap.size #[.int .i64 C.free, .slice A1 n1 c1, .slice A2 n2 c2] 25
  map : MapIs (fun a : Int => Value.int .i64 a) W (w.heap.size + 1) (pvF C y k V)
  own : ∀ d, Own W (w.heap.size + 1 + 1) 115 4 (V d) (candRows (vPropL C y k d))
  nil : ∀ d, vPropL C y k d = [] → V d = .slice none 0 0
  apart : ∀ d d' b, d ≠ d' → (V d).ownBlock = some b → (V d').ownBlock ≠ some b
section
variable {w W W1 W2 : World} {C : Cat} {A1 A2 : Option Addr} {n1 c1 n2 c2 : Nat} {y : Int} {k : Nat} {V : Int → Value}
theorem PrBox.below (h : PrBox w W C A1 n1 c1 A2 n2 c2 y k V) (hb : Below W.heap.size W W2) : PrBox w W2 C A1 n1 c1 A2 n2 c2 y k V :=
  ⟨below_then h.bel h.bel.size hb, h.box.below hb, h.map.below hb, fun d => (h.own d).below hb, h.nil, h.apart⟩
theorem PrBox.alloc (h : PrBox w W C A1 n1 c1 A2 n2 c2 y k V) (o : Obj) : PrBox w (W.alloc o) C A1 n1 c1 A2 n2 c2 y k V := h.below ((Below.refl _ _).alloc (Nat.le_refl _) o)
theorem PrBox.look (h : PrBox w W C A1 n1 c1 A2 n2 c2 y k V) (d : Int) : V d = if false = true then .tuple #[(pvF C y k V d).getD (.slice none 0 0), .bool (pvF C y k V d).isSome] else (pvF C y k V d).getD (.slice none 0 0) := by
  rw [if_neg (by decide)]
  unfold pvF
  split
  · rename_i e; rw [h.nil d e]; rfl
  · rfl
theorem PrBox.new (w : World) (C : Cat) (A1 : Option Addr) (n1 c1 : Nat) (A2 : Option Addr) (n2 c2 : Nat) (y : Int) : PrBox w ((w.alloc (.cells #[.int .i64 C.free, .slice A1 n1 c1, .slice A2 n2 c2] 25)).alloc (.map #[] 0)) C A1 n1 c1 A2 n2 c2 y 0 (fun _ => .slice none 0 0) := by
  have e : ∀ d, vPropL C y 0 d = [] := fun d => by simp [vPropL]
  refine ⟨((Below.refl _ _).alloc (Nat.le_refl _) _).alloc (by simp) _, (Blk.new _ _ _).alloc _, ?_, fun d => by rw [e]; exact Own.nil _ _ _ _, fun _ _ => rfl, fun _ _ _ _ h => by cases h⟩
  have := MapIs.made (inj := fun a : Int => Value.int .i64 a) (w.alloc (.cells #[.int .i64 C.free, .slice A1 n1 c1, .slice A2 n2 c2] 25))
  rw [World.size_alloc] at this
  rw [show pvF C y 0 (fun _ => .slice none 0 0) = fun _ => none from funext fun d => by unfold pvF; rw [e d]; rfl]
  exact this
/-- Behind the append, ahead of the map's store. -/
theorem PrBox.mid (h : PrBox w W C A1 n1 c1 A2 n2 c2 y k V) (d : Int) (hg : W.grownBy W1 (V d).ownBlock) : MapIs (fun a : Int => Value.int .i64 a) W1 (w.heap.size + 1) (pvF C y k V) :=
  h.map.grown hg (fun e => by have := ((h.own d).block _ e.symm).1; omega)
def updV (V : Int → Value) (d : Int) (v : Value) (j : Int) : Value := if j = d then v else V j
theorem PrBox.step (h : PrBox w W C A1 n1 c1 A2 n2 c2 y k V) {s : Fea} (hs : C.feas[k]? = some s) {v1 : Value}
    (ho : Own W1 (w.heap.size + 1 + 1) 115 4 v1 (candRows (vPropL C y k (s.at_.day y)) ++ [Cand.row ⟨2, k, s.rank, s.id⟩])) (hb : Below (w.heap.size + 1 + 1) W W1) (hg : W.grownBy W1 (V (s.at_.day y)).ownBlock)
    (hat : v1.ownBlock = (V (s.at_.day y)).ownBlock ∨ ∃ b, v1.ownBlock = some b ∧ W.heap.size ≤ b)
    (hm : MapIs (fun a : Int => Value.int .i64 a) W2 (w.heap.size + 1) (fun j => if j = s.at_.day y then some v1 else pvF C y k V j)) (hg2 : W1.grownBy W2 (some (w.heap.size + 1))) :
    PrBox w W2 C A1 n1 c1 A2 n2 c2 y (k + 1) (updV V (s.at_.day y) v1) := by
  have e : ∀ d, vPropL C y (k + 1) d = if d = s.at_.day y then vPropL C y k (s.at_.day y) ++ [⟨2, k, s.rank, s.id⟩] else vPropL C y k d := fun d => by
    rw [vPropL_succ hs]
    by_cases hd : d = s.at_.day y
    · subst hd; rw [if_pos rfl, if_pos rfl]
    · rw [if_neg (fun x => hd x.symm), if_neg hd, List.append_nil]
  have hsz := h.bel.size
  have hb1 : Below w.heap.size w W1 := h.bel.trans (hb.mono (by omega))
  have hsz1 := hb1.size
  have hlt : ∀ d b, (V d).ownBlock = some b → b < W.heap.size := fun d b hd => ((h.own d).block b hd).2
  refine ⟨hb1.grown hg2 hsz1 (fun j e => by cases e; omega), blk_grown (blk_grown h.box hg (fun e => by have := ((h.own _).block _ e.symm).1; omega)) hg2 (by simp), ?_, fun d => ?_, fun d hd => ?_, fun d d' b hne hd hd' => ?_⟩
  · rw [show pvF C y (k + 1) (updV V (s.at_.day y) v1) = fun j => if j = s.at_.day y then some v1 else pvF C y k V j from funext fun j => by
      unfold pvF updV
      rw [e]
      by_cases hj : j = s.at_.day y
      · simp [hj]
      · simp [hj]]
    exact hm
  · rw [e]
    unfold updV
    by_cases hd : d = s.at_.day y
    · rw [if_pos hd, if_pos hd]
      have : candRows (vPropL C y k (s.at_.day y) ++ [⟨2, k, s.rank, s.id⟩]) = candRows (vPropL C y k (s.at_.day y)) ++ [Cand.row ⟨2, k, s.rank, s.id⟩] := by simp [candRows]
      rw [this]
      exact ho.kept hg2 (.inr fun e => by have := (ho.block _ e).1; omega)
    · rw [if_neg hd, if_neg hd]
      refine ((h.own d).kept hg ?_).kept hg2 (.inr fun e => by have := ((h.own d).block _ e).1; omega)
      cases hv : (V d).ownBlock with
      | none => exact .inl rfl
      | some b => exact .inr fun e => h.apart d _ b hd hv e.symm
  · rw [e] at hd
    unfold updV
    by_cases hj : d = s.at_.day y
    · rw [if_pos hj] at hd; simp at hd
    · rw [if_neg hj] at hd ⊢; exact h.nil d hd
  · unfold updV at hd hd'
    by_cases hj : d = s.at_.day y
    · rw [if_pos hj] at hd
      rw [if_neg (fun x => hne (hj.trans x.symm))] at hd'
      rcases hat with hat | ⟨b', hb', hle⟩
      · rw [hat] at hd; exact h.apart _ d' b (fun x => hne (hj.trans x)) hd hd'
      · rw [hb'] at hd; cases hd; have := hlt d' _ hd'; omega
    · rw [if_neg hj] at hd
      by_cases hj' : d' = s.at_.day y
      · rw [if_pos hj'] at hd'
        rcases hat with hat | ⟨b', hb', hle⟩
        · rw [hat] at hd'; exact h.apart d _ b hj hd hd'
        · rw [hb'] at hd'; cases hd'; have := hlt d _ hd; omega
      · rw [if_neg hj'] at hd'; exact h.apart d d' b hne hd hd'
end
set_option maxRecDepth 20000 in
set_option maxHeartbeats 1000000 in
theorem proper_c (C : Cat) (A1 : Option Addr) (n1 c1 : Nat) (A2 : Option Addr) (n2 c2 : Nat) (y : Int) (w : World) (ht : Hid (Tabs w)) (hI : Hid (CatIn w C A1 n1 c1 A2 n2 c2)) (hG : Hid C.Good) (y1 : 1583 ≤ y) (y2 : y ≤ 1000000000) :
    Calls Tryz.prog 90 #[.agg #[.int .i64 C.free, .slice A1 n1 c1, .slice A2 n2 c2], .int .i64 y] w fun e w' => e = .returned (.map (some (w.heap.size + 1))) ∧ ∃ V, PrBox w w' C A1 n1 c1 A2 n2 c2 y C.feas.length V := by
  have hmm := @run_makeMap Tryz.prog
  have HK := Lib.hid (PrBox.new w C A1 n1 c1 A2 n2 c2 y)
  have g3 : n2 ≤ 31 := by have := hG.out.n3; have := hI.out.e2; omega
  go_enter Tryz.func90, Tryz.ntmps90
  go_wp2_with fail
  go_loopw [14] (fun i wr => ∃ (k : Nat) (V : Int → Value), k ≤ n2 ∧ i = .int .i64 k ∧ Hid (PrBox w wr C A1 n1 c1 A2 n2 c2 y k V)) (fun i _ => (n2 - intOf i).toNat)
  case atStart => exact ⟨0, _, by omega, rfl, HK⟩
  case round =>
    clear HK
    obtain ⟨k, V, k1, rfl, HK⟩ := hrel
    by_cases hk : k < n2
    · obtain ⟨s, hs⟩ : ∃ s, C.feas[k]? = some s := ⟨_, List.getElem?_eq_getElem (by have := hI.out.e2; omega)⟩
      have hm : s ∈ C.feas := List.mem_of_getElem? hs
      have OK : Hid (AncOk s.at_.k s.at_.m s.at_.d s.at_.o s.at_.wd s.at_.c) := Lib.hid (hG.out.fea s hm).at_
      have HD : Hid (vAnc y s.at_.k s.at_.m s.at_.d s.at_.o s.at_.wd s.at_.c = s.at_.day y) := Lib.hid rfl
      have HL : Hid ((vPropL C y k (s.at_.day y)).length ≤ 31) := Lib.hid (by
        refine Nat.le_trans (List.length_filterMap_le _ _) ?_
        rw [List.length_zipIdx, List.length_take]; have := hG.out.n3; omega)
      obtain ⟨ad, ha, hr⟩ := (hI.out.fea.below HK.out.bel) k s.cells (by rw [List.getElem?_map, hs]; rfl)
      have HS := Lib.hid hs
      obtain ⟨a0, a1, a2, a3, a4, a5, a6, a7, a8⟩ := RowIs.nine hr
      have plt := hr.lt rfl
      have hk' : (k : Int) < n2 := by omega
      obtain ⟨⟨x0, x1, x2⟩, x3⟩ := HK.out.box.c3
      clear hr hm hs
      subst ha
      go_wp2_with (first | (go_at_call 129; with_reducible refine (day_c _ _ _ _ _ _ _ _ (Lib.hid (ht.out.below (HK.out.alloc _).bel)) y1 y2 OK.out).mono ?_; rintro e w1 ⟨rfl, hw⟩; rw [HD.out]; replace HK := Lib.hid ((HK.out.alloc _).below hw); have BS := (Blk.new wr s.cells 63).below hw; clear hw a0 a1 a2 a3 a4 a5 a6 a7 a8 plt x0 x1 x2 x3; obtain ⟨⟨a0, a1, a2, a3, a4, a5, a6, a7, a8⟩, blt⟩ := Blk.c9 BS; clear BS) | (with_reducible refine wpl_lookup 142 rfl rfl KI Tryz.underlying142 rfl HK.out.map (s.at_.day y) rfl z114 (V (s.at_.day y)) (HK.out.look _) ?_) | (at_builtin; refine own_app (w0 := w1) 114 115 rfl _ _ rfl Tryz.underlying114 info115 rfl (by decide) (by decide) (V (s.at_.day y)) rfl #[_, _, _, _] rfl rfl (by simp [Value.oneCell']) (HK.out.own _) (Below.refl _ _) HK.out.map.lt (by have := HL.out; simp [candRows]; omega) ?_; intro v1 w2 ho hb hg hat; have HO := Lib.hid ho; have HB := Lib.hid hb; have HG := Lib.hid hg; have HA := Lib.hid hat; clear ho hb hg hat; have HM := Lib.hid (HK.out.mid _ HG.out)) | (with_reducible refine wpl_mapUpdate 142 rfl rfl KI Tryz.underlying142 rfl HM.out (s.at_.day y) v1 rfl (by simp [Act.eval, Act.put]) ?_; intro w3 hm hg2 hsz; have HK3 := Lib.hid (HK.out.step HS.out HO.out HB.out HG.out HA.out hm hg2); clear hm hg2 hsz))
      exact ⟨⟨k + 1, _, by omega, by go_num, HK3⟩, by simp [intOf]; omega⟩
    · obtain rfl : k = n2 := by omega
      have e2 := Lib.hid hI.out.e2
      go_wp2_with fail
      go_ret
      exact ⟨rfl, V, by rw [← e2.out]; exact HK.out⟩
end Go.Proofs.YtdgaflcnigljlaaGreatDoor
/-
  Contracts of package candidate: the celebrations of all days of a year. At well-formed small catalogues, years from 1583 to 1000000000. No further condition.
-/
namespace Go.Proofs.YtdgaflcnigljlaaGreatDoor
open Go.RowKit Go.Proofs Go.MapKept Go.Proofs.YtdgaflcnigljlaaGreatDoorW.PrintWords
set_option linter.unusedVariables false
theorem info114 : (Tryz.prog.info? 114).map (fun i => (i.zero, i.size, i.bytes)) = some (some (.slice none 0 0), 1, 24) := by kernel_rfl
theorem Own.lit {base : Nat} (W : World) (cs : Array Value) (e : TypeId) {sz : Nat} (hs : cs.size = sz) (hb : base ≤ W.heap.size) : Own (W.alloc (.cells cs e)) base e sz (.slice (some ⟨W.heap.size, 0, none⟩) 1 1) [cs] :=
  ⟨by simpa using World.ownsRow_lit (e := e) W cs 1 hb (by decide) (by simpa using hs), fun r hr => by simp at hr; rw [hr]; exact hs⟩
theorem Own.apart_ty {W : World} {b b' : Nat} {e e' : TypeId} {sz sz' : Nat} {u v : Value} {R R' : List (Array Value)} (h : Own W b e sz u R) (g : Own W b' e' sz' v R') (hne : e ≠ e') : u.ownBlock = none ∨ u.ownBlock ≠ v.ownBlock := by
  rcases h.1.2 with ⟨rfl, _⟩ | ⟨k, cap, cur, rfl, _, hk, _⟩
  · exact .inl rfl
  · refine .inr fun ee => ?_
    rcases g.1.2 with ⟨rfl, _⟩ | ⟨k', cap', cur', rfl, _, hk', _⟩
    · cases ee
    · have : k = k' := by simpa [Value.ownBlock] using ee
      subst this
      rw [hk] at hk'
      simp at hk'
      exact hne hk'.2
theorem Own.lit2 {base : Nat} (W : World) (o : Obj) (cs : Array Value) (e : TypeId) {sz : Nat} (hs : cs.size = sz) (hb : base ≤ W.heap.size) : Own ((W.alloc o).alloc (.cells cs e)) base e sz (.slice (some ⟨W.heap.size + 1, 0, none⟩) 1 1) [cs] := by
  have := Own.lit (base := base) (W.alloc o) cs e hs (by simp; omega)
  rwa [World.size_alloc] at this
theorem Own.named {W : World} {base : Nat} {e : TypeId} {sz : Nat} {v : Value} {rows : List (Array Value)} (h : Own W base e sz v rows) : ∃ A n c, v = .slice A n c := by
  obtain ⟨A, c, rfl, _⟩ := h.form
  exact ⟨_, _, _, rfl⟩
section
variable {w W : World} {base : Nat} {e : TypeId} {sz : Nat} {v : Value} {rows : List (Array Value)}
variable {P : Program} {ops : Array Oper} {rest : List Oper} {o : Oper} {a : Act} {Q : Exit → Act → World → Prop}
theorem own_cat {b2 bytes : Nat} {z : Value} (t e : TypeId) (hgd : o.guard = none) (s x : Operand)
    (ho : o.op = .call { callee := .builtin .append, args := #[s, x], argTypes := #[t, t] })
    (ht : P.underlying t = some (.slice e)) (hinfo : (P.info? e).map (fun i => (i.zero, i.size, i.bytes)) = some (some z, sz, bytes)) (hz : z.cells.size = sz) (hsz : 0 < sz) (hb0 : 0 < bytes)
    (v : Value) (hs : a.eval s = v) (u : Value) (rows2 : List (Array Value)) (hx : a.eval x = u) (h1 : ∀ r ∈ rows2, ∀ q ∈ r.toList, q.oneCell' = true)
    (HO : Own W base e sz v rows) (HU : Own W b2 e sz u rows2) (hbase : base ≤ W.heap.size) (hl : (rows.length + rows2.length) * bytes ≤ 140737488355328)
    (h : ∀ v1 w1, Own w1 base e sz v1 (rows ++ rows2) → W.grownBy w1 v.ownBlock → (v1.ownBlock = v.ownBlock ∨ v1.ownBlock = some W.heap.size) → wpList P ops Q rest (a.put o.dst v1) w1) :
    wpList P ops Q (o :: rest) a W := by
  obtain ⟨i0, hi, hzz⟩ := Option.map_eq_some_iff.1 hinfo
  simp only [Prod.mk.injEq] at hzz
  obtain ⟨hz0, hz1, hz2⟩ := hzz
  have hlen : rows.length + rows2.length ≤ 140737488355328 := Nat.le_trans (Nat.le_mul_of_pos_right _ hb0) hl
  have all : ∀ r ∈ rows ++ rows2, r.size = sz := fun r hr => by
    rcases List.mem_append.1 hr with hr | hr
    · exact HO.2 r hr
    · exact HU.2 r hr
  rcases HU.1.2 with ⟨rfl, hn⟩ | ⟨g, cap, cur, rfl, _, hg, _⟩
  · have : rows2 = [] := List.eq_nil_of_length_eq_zero hn
    subst this
    refine wpList_plain hgd fun K hK => ?_
    have hr := run_append_owned_none (P := P) W base t o.type e i0 sz ht hi v _ _ HO.1
    unfold Oper.wp execOp
    simp only [ho, resolve, invoke, builtin, Sem.run_bind, Sem.run_pure, Result.andThen_ok, List.map_toArray, List.map_cons, List.map_nil, hs, hx, hr]
    exact hK _ _ (h v W (by simpa using HO) (World.grownBy.refl _ _) (.inl rfl))
  · refine wpList_append_own_at W hgd s x t ho base e i0 z sz bytes ht hi hz0 hz1 hz2 hz hsz v rows.length _ hs HO.1 ⟨g, 0, none⟩ rows2.length cap (rows2.flatMap Array.toList) hx (flat_len HU.2)
      (fun j q hj => HU.1.cells (g := g) rfl j q hj) (fun q hq => by obtain ⟨r, hr, hq⟩ := List.mem_flatMap.1 hq; exact h1 r hr q hq) (by simp only [maxLen]; omega) hl hbase ?_
    intro v1 w1 hown hgr _ hat
    exact h v1 w1 ⟨by rw [List.length_append, List.flatMap_append]; exact hown, all⟩ hgr hat
end
def vDays (y : Int) : Nat := (365 + lp (vLeap y)).toNat
theorem vDays_next (y : Int) : vFirst (y + 1) = vFirst y + vDays y := by
  have := lp01 (vLeap y)
  rw [vFirst_succ]; unfold vDays; omega
def vCands (C : Cat) (y d : Int) : List Cand := vTemp C y d :: vPropL C y C.feas.length d
/-- The days' lists. -/
structure YrRes (W : World) (base : Nat) (C : Cat) (y : Int) (k : Nat) (v : Value) (vs : List Value) : Prop where
  out : Own W base 114 1 v (vs.map fun u => #[u])
  len : vs.length = k
  ins : ∀ (i : Nat) (u : Value), vs[i]? = some u → Own W base 115 4 u (candRows (vCands C y (vFirst y + i)))
section
variable {W W2 : World} {base : Nat} {C : Cat} {y : Int} {k : Nat} {v : Value} {vs : List Value}
theorem YrRes.below (h : YrRes W base C y k v vs) (hb : Below W.heap.size W W2) : YrRes W2 base C y k v vs := ⟨h.out.below hb, h.len, fun i u hu => (h.ins i u hu).below hb⟩
theorem YrRes.less {b : Nat} (h : YrRes W base C y k v vs) (hb : b ≤ base) : YrRes W b C y k v vs := ⟨h.out.less hb, h.len, fun i u hu => (h.ins i u hu).less hb⟩
theorem YrRes.app (h : YrRes W base C y k v vs) {u v1 : Value} (hu : Own W base 115 4 u (candRows (vCands C y (vFirst y + k)))) (ho : Own W2 base 114 1 v1 ((vs.map fun u => #[u]) ++ [#[u]])) (hg : W.grownBy W2 v.ownBlock) :
    YrRes W2 base C y (k + 1) v1 (vs ++ [u]) := by
  refine ⟨by simpa using ho, by simp [h.len], fun i x hx => ?_⟩
  rcases Nat.lt_or_ge i vs.length with hi | hi
  · rw [List.getElem?_append_left hi] at hx
    exact (h.ins i x hx).kept hg ((h.ins i x hx).apart_ty h.out (by decide))
  · rw [List.getElem?_append_right hi] at hx
    have : i = k := by
      have := (List.getElem?_eq_some_iff.1 hx).1
      simp at this; have := h.len; omega
    subst this
    rw [h.len, Nat.sub_self] at hx
    cases hx
    exact hu.kept hg (hu.apart_ty h.out (by decide))
end
structure CtBox (w W : World) (C : Cat) (A1 : Option Addr) (n1 c1 : Nat) (A2 : Option Addr) (n2 c2 : Nat) : Prop where
  bel : Below w.heap.size w W
  box : Blk W w.heap.size #[.int .i64 C.free, .slice A1 n1 c1, .slice A2 n2 c2] 25
theorem CtBox.below {w W W2 : World} {C : Cat} {A1 A2 : Option Addr} {n1 c1 n2 c2 : Nat} (h : CtBox w W C A1 n1 c1 A2 n2 c2) (hb : Below W.heap.size W W2) : CtBox w W2 C A1 n1 c1 A2 n2 c2 := ⟨below_then h.bel h.bel.size hb, h.box.below hb⟩
theorem CtBox.new (w : World) (C : Cat) (A1 : Option Addr) (n1 c1 : Nat) (A2 : Option Addr) (n2 c2 : Nat) : CtBox w (w.alloc (.cells #[.int .i64 C.free, .slice A1 n1 c1, .slice A2 n2 c2] 25)) C A1 n1 c1 A2 n2 c2 := ⟨(Below.refl _ _).alloc (Nat.le_refl _) _, Blk.new _ _ _⟩
/-- Within the loop. -/
structure YlBox (W1 W : World) (C : Cat) (y : Int) (k : Nat) (v : Value) (vs : List Value) : Prop where
  bel : Below W1.heap.size W1 W
  res : YrRes W W1.heap.size C y k v vs
theorem YlBox.below {W1 W W2 : World} {C : Cat} {y : Int} {k : Nat} {v : Value} {vs : List Value} (h : YlBox W1 W C y k v vs) (hb : Below W.heap.size W W2) : YlBox W1 W2 C y k v vs := ⟨below_then h.bel h.bel.size hb, h.res.below hb⟩
theorem YlBox.app {W1 W W2 : World} {C : Cat} {y : Int} {k : Nat} {v v1 u : Value} {vs : List Value} (h : YlBox W1 W C y k v vs) (hu : Own W W1.heap.size 115 4 u (candRows (vCands C y (vFirst y + k)))) (ho : Own W2 W1.heap.size 114 1 v1 ((vs.map fun u => #[u]) ++ [#[u]])) (hb : Below W1.heap.size W W2) (hg : W.grownBy W2 v.ownBlock) : YlBox W1 W2 C y (k + 1) v1 (vs ++ [u]) := ⟨h.bel.trans hb, h.res.app hu ho hg⟩
theorem cand_one (l : List Cand) : ∀ r ∈ candRows l, ∀ q ∈ r.toList, q.oneCell' = true := fun r hr q hq => by
  obtain ⟨c, _, rfl⟩ := List.mem_map.1 hr
  simp only [Cand.row, List.mem_cons, List.not_mem_nil, or_false] at hq
  rcases hq with rfl | rfl | rfl | rfl <;> rfl
theorem prop_len {C : Cat} (hG : C.Good) (y d : Int) : (vPropL C y C.feas.length d).length ≤ 31 := by
  refine Nat.le_trans (List.length_filterMap_le _ _) ?_
  rw [List.length_zipIdx, List.length_take]; have := hG.n3; omega
theorem prop_small {C : Cat} (hG : C.Good) {y d : Int} {x : Array Value} : ([x].length + (candRows (vPropL C y C.feas.length d)).length) * 40 ≤ 140737488355328 := by
  have := prop_len hG y d
  simp only [candRows, List.length_map, List.length_singleton]; omega
set_option maxRecDepth 20000 in
set_option maxHeartbeats 1000000 in
theorem cyear_c (C : Cat) (A1 : Option Addr) (n1 c1 : Nat) (A2 : Option Addr) (n2 c2 : Nat) (y : Int) (w : World) (ht : Hid (Tabs w)) (hI : Hid (CatIn w C A1 n1 c1 A2 n2 c2)) (hG : Hid C.Good) (y1 : 1583 ≤ y) (y2 : y ≤ 1000000000) :
    Calls Tryz.prog 58 #[.agg #[.int .i64 C.free, .slice A1 n1 c1, .slice A2 n2 c2], .int .i64 y] w fun e w' => ∃ v vs, e = .returned (.tuple #[v, .int .i64 0]) ∧ YrRes w' w.heap.size C y (vDays y) v vs ∧ Below w.heap.size w w' := by
  have HK := Lib.hid (CtBox.new w C A1 n1 c1 A2 n2 c2)
  obtain ⟨p1, p2⟩ := year_start y1 y2
  have P1 := Lib.hid p1
  have P2 := Lib.hid p2
  have b1 : decide (y < 1583) = false := by simpa using y1
  have b2 : decide (1000000000 < y) = false := by simpa using y2
  clear p1 p2
  go_enter Tryz.func58, Tryz.ntmps58
  cases hlp : vLeap y with
  | true =>
    have LP := Lib.hid hlp
    go_wp2_with (first | (go_at_call 88; with_reducible refine (check_ok C _ _ _ _ _ _ _ (Lib.hid (hI.out.below HK.out.bel)) hG).mono ?_; rintro e w1 ⟨rfl, hw⟩; replace HK := Lib.hid (HK.out.below hw); clear hw; obtain ⟨⟨x0, x1, x2⟩, x3⟩ := HK.out.box.c3) | (go_at_call 60; with_reducible refine (First_c y _).mono ?_; rintro e w2 ⟨rfl, rfl⟩; rw [P1.out, P2.out]) | (go_at_call 89; with_reducible refine (leap_c y _).mono ?_; rintro e w2 ⟨rfl, rfl⟩; rw [LP.out]) | (go_at_call 90; with_reducible refine (proper_c C _ _ _ _ _ _ _ _ (Lib.hid (ht.out.below HK.out.bel)) (Lib.hid (hI.out.below HK.out.bel)) hG y1 y2).mono ?_; rintro e w2 ⟨rfl, V, hp⟩; replace HK := Lib.hid (HK.out.below hp.bel); have HP := Lib.hid hp; clear hp; obtain ⟨⟨x0, x1, x2⟩, x3⟩ := HK.out.box.c3))
    obtain ⟨W1, hW⟩ : ∃ W1, w2 = W1 := ⟨_, rfl⟩
    rw [hW] at HK HP x0 x1 x2 x3 ⊢
    clear hW
    have DV : Hid (vDays y = 366) := Lib.hid (by simp [vDays, lp, LP.out])
    have HL := Lib.hid (show YlBox W1 W1 C y 0 (.slice none 0 0) [] from ⟨Below.refl _ _, Own.nil _ _ _ _, rfl, fun i u h => by cases h⟩)
    go_loopw [39, 11] (fun i o wr => ∃ (k : Nat) (v : Value) (vs : List Value), k ≤ 366 ∧ i = .int .i64 k ∧ v = o ∧ Hid (YlBox W1 wr C y k v vs)) (fun i _ _ => (366 - intOf i).toNat)
    case atStart => exact ⟨0, _, [], by omega, rfl, rfl, HL⟩
    case round =>
      clear HL
      obtain ⟨k, v, vs, k1, rfl, rfl, HL⟩ := hrel
      by_cases hk : k < 366
      · have t1 : decide ((k : Int) < 366) = true := by simp; omega
        have HK2 := Lib.hid (HK.out.below HL.out.bel)
        obtain ⟨⟨z0, z1, z2⟩, z3⟩ := HK2.out.box.c3
        obtain ⟨f1, f2⟩ := vFirst_bd (y := y) (by omega) (by omega)
        have dn := vDays_next y
        rw [DV.out] at dn
        have d1 : vFirst y ≤ vFirst y + k := by omega
        have d2 : vFirst y + k < vFirst (y + 1) := by omega
        go_wp2_with (first | (go_at_call 91; with_reducible refine (temporal_c C _ _ _ _ _ _ _ _ _ (Lib.hid (ht.out.below HK2.out.bel)) (Lib.hid (hI.out.below HK2.out.bel)) hG y1 y2 d1 d2).mono ?_; rintro e w3 ⟨rfl, hw⟩; replace HL := Lib.hid (HL.out.below hw); clear hw HK2 z0 z1 z2 z3; have w3b := HL.out.bel.size; have HA := Lib.hid (((Below.refl w3.heap.size w3).alloc (Nat.le_refl _) (.cells (vTemp C y (vFirst y + k)).row 115)).alloc (by simp) (.cells (vTemp C y (vFirst y + k)).row 115)); have HP2 := Lib.hid (HP.out.below (HL.out.bel.trans (HA.out.mono w3b))); have HO := Lib.hid (Own.lit2 (base := W1.heap.size) w3 (.cells (vTemp C y (vFirst y + k)).row 115) (vTemp C y (vFirst y + k)).row 115 (sz := 4) rfl w3b)) | (with_reducible refine wpl_lookup 142 rfl rfl KI Tryz.underlying142 rfl HP2.out.map (vFirst y + k) rfl z114 (V (vFirst y + k)) (HP2.out.look _) ?_) | (at_builtin; refine own_cat 114 115 rfl _ _ rfl Tryz.underlying114 info115 rfl (by decide) (by decide) _ rfl (V (vFirst y + k)) (candRows (vPropL C y C.feas.length (vFirst y + k))) rfl (cand_one _) HO.out (HP2.out.own _) (Nat.le_trans w3b HA.out.size) (prop_small hG.out) ?_; intro v1 w4 ho hg _; obtain ⟨A, m, c, rfl⟩ := ho.named; have H4 := Lib.hid ho; replace HL := Lib.hid (HL.out.below (HA.out.grown hg HA.out.size (fun j e => by cases e; exact Nat.le_succ _))); clear ho hg HA HP2 HO) | (at_builtin; refine own_app (w0 := w4) 111 114 rfl _ _ rfl Tryz.underlying111 info114 rfl (by decide) (by decide) _ rfl #[_] rfl rfl (by simp [Value.oneCell']) HL.out.res.out (Below.refl _ _) HL.out.bel.size (by have := HL.out.res.len; simp; omega) ?_; intro v2 w5 ho hb hg hat; have HL2 := Lib.hid (HL.out.app H4.out ho hb hg); clear ho hb hg hat))
        exact ⟨⟨k + 1, _, _, by omega, by go_num, rfl, HL2⟩, by simp [intOf]; omega⟩
      · obtain rfl : k = 366 := by omega
        go_wp2_with fail
        go_ret2
        exact ⟨v, vs, rfl, by rw [DV.out]; exact HL.out.res.less (HK.out.bel.size), HK.out.bel.trans (HL.out.bel.mono HK.out.bel.size)⟩
  | false =>
    have LP := Lib.hid hlp
    go_wp2_with (first | (go_at_call 88; with_reducible refine (check_ok C _ _ _ _ _ _ _ (Lib.hid (hI.out.below HK.out.bel)) hG).mono ?_; rintro e w1 ⟨rfl, hw⟩; replace HK := Lib.hid (HK.out.below hw); clear hw; obtain ⟨⟨x0, x1, x2⟩, x3⟩ := HK.out.box.c3) | (go_at_call 60; with_reducible refine (First_c y _).mono ?_; rintro e w2 ⟨rfl, rfl⟩; rw [P1.out, P2.out]) | (go_at_call 89; with_reducible refine (leap_c y _).mono ?_; rintro e w2 ⟨rfl, rfl⟩; rw [LP.out]) | (go_at_call 90; with_reducible refine (proper_c C _ _ _ _ _ _ _ _ (Lib.hid (ht.out.below HK.out.bel)) (Lib.hid (hI.out.below HK.out.bel)) hG y1 y2).mono ?_; rintro e w2 ⟨rfl, V, hp⟩; replace HK := Lib.hid (HK.out.below hp.bel); have HP := Lib.hid hp; clear hp; obtain ⟨⟨x0, x1, x2⟩, x3⟩ := HK.out.box.c3))
    obtain ⟨W1, hW⟩ : ∃ W1, w2 = W1 := ⟨_, rfl⟩
    rw [hW] at HK HP x0 x1 x2 x3 ⊢
    clear hW
    have DV : Hid (vDays y = 365) := Lib.hid (by simp [vDays, lp, LP.out])
    have HL := Lib.hid (show YlBox W1 W1 C y 0 (.slice none 0 0) [] from ⟨Below.refl _ _, Own.nil _ _ _ _, rfl, fun i u h => by cases h⟩)
    go_loopw [39, 11] (fun i o wr => ∃ (k : Nat) (v : Value) (vs : List Value), k ≤ 365 ∧ i = .int .i64 k ∧ v = o ∧ Hid (YlBox W1 wr C y k v vs)) (fun i _ _ => (365 - intOf i).toNat)
    case atStart => exact ⟨0, _, [], by omega, rfl, rfl, HL⟩
    case round =>
      clear HL
      obtain ⟨k, v, vs, k1, rfl, rfl, HL⟩ := hrel
      by_cases hk : k < 365
      · have t1 : decide ((k : Int) < 365) = true := by simp; omega
        have HK2 := Lib.hid (HK.out.below HL.out.bel)
        obtain ⟨⟨z0, z1, z2⟩, z3⟩ := HK2.out.box.c3
        obtain ⟨f1, f2⟩ := vFirst_bd (y := y) (by omega) (by omega)
        have dn := vDays_next y
        rw [DV.out] at dn
        have d1 : vFirst y ≤ vFirst y + k := by omega
        have d2 : vFirst y + k < vFirst (y + 1) := by omega
        go_wp2_with (first | (go_at_call 91; with_reducible refine (temporal_c C _ _ _ _ _ _ _ _ _ (Lib.hid (ht.out.below HK2.out.bel)) (Lib.hid (hI.out.below HK2.out.bel)) hG y1 y2 d1 d2).mono ?_; rintro e w3 ⟨rfl, hw⟩; replace HL := Lib.hid (HL.out.below hw); clear hw HK2 z0 z1 z2 z3; have w3b := HL.out.bel.size; have HA := Lib.hid (((Below.refl w3.heap.size w3).alloc (Nat.le_refl _) (.cells (vTemp C y (vFirst y + k)).row 115)).alloc (by simp) (.cells (vTemp C y (vFirst y + k)).row 115)); have HP2 := Lib.hid (HP.out.below (HL.out.bel.trans (HA.out.mono w3b))); have HO := Lib.hid (Own.lit2 (base := W1.heap.size) w3 (.cells (vTemp C y (vFirst y + k)).row 115) (vTemp C y (vFirst y + k)).row 115 (sz := 4) rfl w3b)) | (with_reducible refine wpl_lookup 142 rfl rfl KI Tryz.underlying142 rfl HP2.out.map (vFirst y + k) rfl z114 (V (vFirst y + k)) (HP2.out.look _) ?_) | (at_builtin; refine own_cat 114 115 rfl _ _ rfl Tryz.underlying114 info115 rfl (by decide) (by decide) _ rfl (V (vFirst y + k)) (candRows (vPropL C y C.feas.length (vFirst y + k))) rfl (cand_one _) HO.out (HP2.out.own _) (Nat.le_trans w3b HA.out.size) (prop_small hG.out) ?_; intro v1 w4 ho hg _; obtain ⟨A, m, c, rfl⟩ := ho.named; have H4 := Lib.hid ho; replace HL := Lib.hid (HL.out.below (HA.out.grown hg HA.out.size (fun j e => by cases e; exact Nat.le_succ _))); clear ho hg HA HP2 HO) | (at_builtin; refine own_app (w0 := w4) 111 114 rfl _ _ rfl Tryz.underlying111 info114 rfl (by decide) (by decide) _ rfl #[_] rfl rfl (by simp [Value.oneCell']) HL.out.res.out (Below.refl _ _) HL.out.bel.size (by have := HL.out.res.len; simp; omega) ?_; intro v2 w5 ho hb hg hat; have HL2 := Lib.hid (HL.out.app H4.out ho hb hg); clear ho hb hg hat))
        exact ⟨⟨k + 1, _, _, by omega, by go_num, rfl, HL2⟩, by simp [intOf]; omega⟩
      · obtain rfl : k = 365 := by omega
        go_wp2_with fail
        go_ret2
        exact ⟨v, vs, rfl, by rw [DV.out]; exact HL.out.res.less (HK.out.bel.size), HK.out.bel.trans (HL.out.bel.mono HK.out.bel.size)⟩
end Go.Proofs.YtdgaflcnigljlaaGreatDoor
/-
  Contracts of package precedence: comparing and exchanging candidates in a row that a call made; cloning a row. No further condition.
-/
namespace Go.Proofs.YtdgaflcnigljlaaGreatDoor
open Go.RowKit Go.Proofs Go.Proofs.YtdgaflcnigljlaaGreatDoorW.PrintWords
set_option linter.unusedVariables false
/-- One candidate precedes another. -/
def Prec (a b : Cand) : Prop := a.rank < b.rank ∨ (a.rank = b.rank ∧ (a.kind < b.kind ∨ (a.kind = b.kind ∧ a.idx < b.idx)))
instance (a b : Cand) : Decidable (Prec a b) := by unfold Prec; infer_instance
set_option maxHeartbeats 400000 in
theorem precedes_c (a b : Cand) (w : World) : Calls Tryz.prog 292 #[.agg a.row, .agg b.row] w fun e w' => e = .returned (.bool (decide (Prec a b))) ∧ Below w.heap.size w w' := by
  have B1 := Lib.hid ((Blk.new w a.row 115).alloc (.cells b.row 115))
  have B2 := Lib.hid (Blk.new2 w (.cells a.row 115) b.row 115)
  have HB := Lib.hid (((Below.refl w.heap.size w).alloc (Nat.le_refl _) (.cells a.row 115)).alloc (by simp) (.cells b.row 115))
  obtain ⟨ak, ai, ar, sa⟩ := a
  obtain ⟨bk, bi, br, sb⟩ := b
  simp only [Cand.row] at *
  by_cases h1 : ar = br
  · subst h1
    by_cases h2 : ak = bk
    · subst h2
      have E : Hid (decide (Prec ⟨ak, ai, ar, sa⟩ ⟨ak, bi, ar, sb⟩) = decide (ai < bi)) := Lib.hid (by simp [Prec])
      go_enter Tryz.func292, Tryz.ntmps292
      go_wp2_with fail
      go_ret
      exact ⟨by rw [E.out]; rfl, HB.out⟩
    · have t2 : (ak == bk) = false := by simpa using h2
      have E : Hid (decide (Prec ⟨ak, ai, ar, sa⟩ ⟨bk, bi, ar, sb⟩) = decide (ak < bk)) := Lib.hid (by simp [Prec, h2])
      go_enter Tryz.func292, Tryz.ntmps292
      go_wp2_with fail
      go_ret
      exact ⟨by rw [E.out]; rfl, HB.out⟩
  · have t1 : (ar == br) = false := by simpa using h1
    have E : Hid (decide (Prec ⟨ak, ai, ar, sa⟩ ⟨bk, bi, br, sb⟩) = decide (ar < br)) := Lib.hid (by simp [Prec, h1])
    go_enter Tryz.func292, Tryz.ntmps292
    go_wp2_with fail
    go_ret
    exact ⟨by rw [E.out]; rfl, HB.out⟩
/-- What sorting keeps. -/
structure CoBox (w W : World) (base g cap n : Nat) (l : List Cand) : Prop where
  gr : w.grownBy W (some g)
  own : Own W base 115 4 (.slice (some ⟨g, 0, none⟩) n cap) (candRows l)
section
variable {w W W2 : World} {base g cap n : Nat} {l : List Cand}
theorem CoBox.below (h : CoBox w W base g cap n l) (hb : Below W.heap.size W W2) : CoBox w W2 base g cap n l :=
  ⟨h.gr.trans ⟨hb.os, hb.tape, hb.output, hb.size, fun i hi _ => hb.block i hi⟩, h.own.below hb⟩
theorem CoBox.len (h : CoBox w W base g cap n l) : n = l.length ∧ n ≤ cap := by
  obtain ⟨A, c, he, hc⟩ := h.own.form
  simp only [Value.slice.injEq, candRows, List.length_map] at he hc
  omega
theorem CoBox.cells (h : CoBox w W base g cap n l) {k : Nat} {p : Cand} (hk : l[k]? = some p) : (W.cell? ⟨g, k * 4, none⟩ = some (.int .i64 p.kind) ∧ W.cell? ⟨g, k * 4 + 1, none⟩ = some (.int .i64 p.idx) ∧ W.cell? ⟨g, k * 4 + 2, none⟩ = some (.int .i64 p.rank) ∧ W.cell? ⟨g, k * 4 + 3, none⟩ = some (.string p.id)) ∧ W.frozen? ⟨g, k * 4, none⟩ = false ∧ W.frozen? ⟨g, k * 4 + 1, none⟩ = false ∧ W.frozen? ⟨g, k * 4 + 2, none⟩ = false ∧ W.frozen? ⟨g, k * 4 + 3, none⟩ = false := by
  obtain ⟨g', cap', he, _, _, _, hc⟩ := h.own.cell (k := k) (cs := p.row) (by simp [candRows, hk])
  simp only [Value.slice.injEq, Option.some.injEq, Addr.mk.injEq, and_true] at he
  obtain ⟨rfl, _⟩ := he
  exact ⟨⟨(hc 0 (by omega)).1, (hc 1 (by omega)).1, (hc 2 (by omega)).1, (hc 3 (by omega)).1⟩, (hc 0 (by omega)).2, (hc 1 (by omega)).2, (hc 2 (by omega)).2, (hc 3 (by omega)).2⟩
theorem CoBox.put (h : CoBox w W base g cap n l) {k : Nat} (hk : k < l.length) (p : Cand) : CoBox w ((((W.setCell ⟨g, k * 4, none⟩ (.int .i64 p.kind)).setCell ⟨g, k * 4 + 1, none⟩ (.int .i64 p.idx)).setCell ⟨g, k * 4 + 2, none⟩ (.int .i64 p.rank)).setCell ⟨g, k * 4 + 3, none⟩ (.string p.id)) base g cap n (l.set k p) := by
  obtain ⟨q, hq⟩ : ∃ q, l[k]? = some q := ⟨_, List.getElem?_eq_getElem hk⟩
  obtain ⟨o1, g1⟩ := h.own.set (k := k) (j := 0) (cs := q.row) (by simp [candRows, hq]) (by omega) (.int .i64 p.kind)
  obtain ⟨o2, g2⟩ := o1.set (k := k) (j := 1) (cs := q.row.setIfInBounds 0 (.int .i64 p.kind)) (by rw [List.getElem?_set_self (by simpa [candRows] using hk)]) (by omega) (.int .i64 p.idx)
  obtain ⟨o3, g3⟩ := o2.set (k := k) (j := 2) (cs := (q.row.setIfInBounds 0 (.int .i64 p.kind)).setIfInBounds 1 (.int .i64 p.idx)) (by rw [List.getElem?_set_self (by simpa [candRows] using hk)]) (by omega) (.int .i64 p.rank)
  obtain ⟨o4, g4⟩ := o3.set (k := k) (j := 3) (cs := ((q.row.setIfInBounds 0 (.int .i64 p.kind)).setIfInBounds 1 (.int .i64 p.idx)).setIfInBounds 2 (.int .i64 p.rank)) (by rw [List.getElem?_set_self (by simpa [candRows] using hk)]) (by omega) (.string p.id)
  refine ⟨(((h.gr.trans g1).trans g2).trans g3).trans g4, ?_⟩
  have e : (List.set (List.set (List.set (List.set (candRows l) k (q.row.setIfInBounds 0 (.int .i64 p.kind))) k ((q.row.setIfInBounds 0 (.int .i64 p.kind)).setIfInBounds 1 (.int .i64 p.idx))) k (((q.row.setIfInBounds 0 (.int .i64 p.kind)).setIfInBounds 1 (.int .i64 p.idx)).setIfInBounds 2 (.int .i64 p.rank))) k ((((q.row.setIfInBounds 0 (.int .i64 p.kind)).setIfInBounds 1 (.int .i64 p.idx)).setIfInBounds 2 (.int .i64 p.rank)).setIfInBounds 3 (.string p.id))) = candRows (l.set k p) := by
    rw [List.set_set, List.set_set, List.set_set]; simp [candRows, Cand.row, List.map_set]
  rw [e] at o4
  exact o4
end
theorem len_c (A : Option Addr) (n c : Nat) (w : World) : Calls Tryz.prog 289 #[.slice A n c] w fun e w' => e = .returned (.int .i64 n) ∧ w = w' := by
  go_enter Tryz.func289, Tryz.ntmps289
  go_wp2_with fail
  go_ret
  exact ⟨rfl, rfl⟩
set_option maxRecDepth 20000 in
set_option maxHeartbeats 1000000 in
theorem less_c (l : List Cand) (base g cap n : Nat) (w0 w : World) (hS : Hid (CoBox w0 w base g cap n l)) (i k : Nat) (a b : Cand) (ha : Hid (l[i]? = some a)) (hb : Hid (l[k]? = some b)) :
    Calls Tryz.prog 290 #[.slice (some ⟨g, 0, none⟩) n cap, .int .i64 i, .int .i64 k] w fun e w' => e = .returned (.bool (decide (Prec a b))) ∧ Below w.heap.size w w' := by
  have D1 : (fun W : World => Below w.heap.size w W) w.drew := (Below.refl _ _).drew
  have i1 : i < n := by have := (List.getElem?_eq_some_iff.1 ha.out).1; have := hS.out.len.1; omega
  have k1 : k < n := by have := (List.getElem?_eq_some_iff.1 hb.out).1; have := hS.out.len.1; omega
  have i2 : (i : Int) < n := by omega
  have k2 : (k : Int) < n := by omega
  have ca : ∀ y : Of (fun W : World => Below w.heap.size w W), y.val.cell? ⟨g, i * 4, none⟩ = some (.int .i64 a.kind) ∧ y.val.cell? ⟨g, i * 4 + 1, none⟩ = some (.int .i64 a.idx) ∧ y.val.cell? ⟨g, i * 4 + 2, none⟩ = some (.int .i64 a.rank) ∧ y.val.cell? ⟨g, i * 4 + 3, none⟩ = some (.string a.id) := fun y => ((hS.out.below y.ok).cells ha.out).1
  have cb : ∀ y : Of (fun W : World => Below w.heap.size w W), y.val.cell? ⟨g, k * 4, none⟩ = some (.int .i64 b.kind) ∧ y.val.cell? ⟨g, k * 4 + 1, none⟩ = some (.int .i64 b.idx) ∧ y.val.cell? ⟨g, k * 4 + 2, none⟩ = some (.int .i64 b.rank) ∧ y.val.cell? ⟨g, k * 4 + 3, none⟩ = some (.string b.id) := fun y => ((hS.out.below y.ok).cells hb.out).1
  go_enter Tryz.func290, Tryz.ntmps290
  go_wp2_with fail
  refine wp_region_cls (C := fun W : World => Below w.heap.size w W) (by kernel_rfl) (by kernel_rfl) D1 ?_
  haveI : Nonempty (Of (fun W : World => Below w.heap.size w W)) := ⟨⟨_, D1⟩⟩
  clear D1
  repeat go_big_quiet_step (first | (go_at_call 292; refine (precedes_c a b _).mono ?_; rintro e w6 ⟨rfl, hw⟩; exact ⟨rfl, ⟨⟨w6, chain (Of.ok _) hw⟩, rfl⟩⟩))
  refine wpQuiet_nil ?_
  rintro _ ⟨w5, rfl⟩
  go_wp2_with fail
  go_ret
  exact ⟨rfl, w5.ok⟩
/-- Exchanging two rows. -/
def swp (l : List Cand) (i k : Nat) (a b : Cand) : List Cand := (l.set i b).set k a
set_option maxRecDepth 20000 in
set_option maxHeartbeats 1000000 in
theorem swap_c (l : List Cand) (base g cap n : Nat) (w0 w : World) (hS : Hid (CoBox w0 w base g cap n l)) (i k : Nat) (a b : Cand) (ha : Hid (l[i]? = some a)) (hb : Hid (l[k]? = some b)) (hne : i ≠ k) :
    Calls Tryz.prog 291 #[.slice (some ⟨g, 0, none⟩) n cap, .int .i64 i, .int .i64 k] w fun e w' => e = .returned (.tuple #[]) ∧ CoBox w0 w' base g cap n (swp l i k a b) := by
  have i0 := (List.getElem?_eq_some_iff.1 ha.out).1
  have k0 := (List.getElem?_eq_some_iff.1 hb.out).1
  have i1 : i < n := by have := hS.out.len.1; omega
  have k1 : k < n := by have := hS.out.len.1; omega
  have i2 : (i : Int) < n := by omega
  have k2 : (k : Int) < n := by omega
  obtain ⟨⟨a0, a1, a2, a3⟩, a4, a5, a6, a7⟩ := hS.out.cells ha.out
  obtain ⟨⟨b0, b1, b2, b3⟩, b4, b5, b6, b7⟩ := hS.out.cells hb.out
  have HP := Lib.hid (((hS.out.put i0 b).put (k := k) (by simpa using k0) a).below (Below.refl _ _).drew)
  clear i0 k0
  go_enter Tryz.func291, Tryz.ntmps291
  go_wp2_with fail
  go_region
  go_end0
  exact ⟨rfl, HP.out⟩
set_option maxRecDepth 20000 in
set_option maxHeartbeats 400000 in
theorem clone_c (A : Option Addr) (n c base : Nat) (l : List Cand) (w : World) (h : Hid (Own w base 115 4 (.slice A n c) (candRows l))) (hl : Hid (l.length ≤ 1000)) (hn : 0 < n) (hA : ∃ ad, A = some ad) :
    Calls Tryz.prog 133 #[.slice A n c] w fun e w' => ∃ g cap, e = .returned (.slice (some ⟨g, 0, none⟩) n cap) ∧ Own w' w.heap.size 115 4 (.slice (some ⟨g, 0, none⟩) n cap) (candRows l) ∧ Below w.heap.size w w' := by
  obtain ⟨ad, rfl⟩ := hA
  have he : ∀ w : World, (binOp .eql 114 (.slice (some ad) n c) (.slice none 0 0)).run Tryz.prog w = .ok (.bool false) w := fun _ => rfl
  have H0 : Hid (Own (w.alloc (.cells #[] 115)) w.heap.size 115 4 (.slice (some ⟨w.heap.size, 0, none⟩) 0 0) []) := Lib.hid ⟨by simpa using World.ownsRow_lit (e := 115) (size := 4) (base := w.heap.size) w #[] 0 (Nat.le_refl _) (by decide) (by simp), fun r hr => by cases hr⟩
  have hc : n = l.length := by
    obtain ⟨A, c, he, _⟩ := h.out.form
    simp only [Value.slice.injEq, candRows, List.length_map] at he
    omega
  have HC := Lib.hid hc
  clear hc
  go_enter Tryz.func133, Tryz.ntmps133
  go_wp2_with (first | (at_builtin; refine own_cat 114 115 rfl _ _ rfl Tryz.underlying114 info115 rfl (by decide) (by decide) (.slice (some ⟨w.heap.size, 0, none⟩) 0 0) rfl (.slice (some ad) n c) (candRows l) rfl (cand_one _) H0.out (h.out.alloc _) (by simp) (by have := hl.out; simp [candRows]; omega) ?_; intro v1 w4 ho hg _; have HO := Lib.hid ho; have HG := Lib.hid hg; clear ho hg))
  go_ret
  rw [List.nil_append] at HO
  obtain ⟨g, cap, e, _⟩ := HO.out.ne (n := n) (by rw [HC.out]; simp [candRows]) hn
  subst e
  exact ⟨g, cap, rfl, HO.out, ((Below.refl _ _).alloc (Nat.le_refl _) _).grown HG.out (by simp) (fun k e => by cases e; exact Nat.le_refl _)⟩
end Go.Proofs.YtdgaflcnigljlaaGreatDoor
/-
  Sorting in place by exchanges: plain laws. No further condition.
-/
namespace Go.Proofs.YtdgaflcnigljlaaGreatDoor
open Go.RowKit
set_option linter.unusedVariables false
def F (l : List Cand) (i : Nat) : Cand := l.getD i ⟨0, 0, 0, ⟨#[]⟩⟩
theorem F_at {l : List Cand} {i : Nat} (h : i < l.length) : l[i]? = some (F l i) := by unfold F; rw [List.getD_eq_getElem?_getD, List.getElem?_eq_getElem h]; rfl
theorem F_of {l : List Cand} {i : Nat} {c : Cand} (h : l[i]? = some c) : F l i = c := by unfold F; rw [List.getD_eq_getElem?_getD, h]; rfl
def sw (l : List Cand) (i k : Nat) : List Cand := swp l i k (F l i) (F l k)
theorem sw_len (l : List Cand) (i k : Nat) : (sw l i k).length = l.length := by simp [sw, swp]
theorem F_sw {l : List Cand} {i k : Nat} (hi : i < l.length) (hk : k < l.length) (j : Nat) : F (sw l i k) j = if j = k then F l i else if j = i then F l k else F l j := by
  unfold sw swp
  conv => lhs; unfold F
  rw [List.getD_eq_getElem?_getD, List.getElem?_set]
  by_cases h1 : k = j
  · subst h1; simp only [List.length_set, hk, if_true, Option.getD_some]; rfl
  · rw [if_neg h1, if_neg (fun e => h1 e.symm), List.getElem?_set]
    by_cases h2 : i = j
    · subst h2; simp only [hi, if_true, Option.getD_some]; rfl
    · rw [if_neg h2, if_neg (fun e => h2 e.symm)]; unfold F; rw [List.getD_eq_getElem?_getD]
theorem sw_perm {l : List Cand} {i k : Nat} (hi : i < l.length) (hk : k < l.length) : (sw l i k).Perm l := by
  have e1 : F l i = l[i] := by have := F_at hi; rw [List.getElem?_eq_getElem hi] at this; exact (Option.some.inj this).symm
  have e2 : F l k = l[k] := by have := F_at hk; rw [List.getElem?_eq_getElem hk] at this; exact (Option.some.inj this).symm
  unfold sw swp
  rw [e1, e2]
  exact List.set_set_perm hi hk
theorem Prec.trans {a b c : Cand} (h : Prec a b) (g : Prec b c) : Prec a c := by unfold Prec at *; omega
theorem Prec.irrefl (a : Cand) : ¬ Prec a a := by unfold Prec; omega
theorem Prec.asymm {a b : Cand} (h : Prec a b) : ¬ Prec b a := fun g => Prec.irrefl a (h.trans g)
/-- Whatever two stand in the list, one precedes the other. -/
def Tot (l : List Cand) : Prop := l.Pairwise (fun x y => Prec x y ∨ Prec y x)
theorem Tot.perm {l l' : List Cand} (h : Tot l) (p : l'.Perm l) : Tot l' := (List.Perm.pairwise_iff (fun h => h.symm) p).2 h
theorem F_get {l : List Cand} {i : Nat} (h : i < l.length) : l[i] = F l i := by have := F_at h; rw [List.getElem?_eq_getElem h] at this; exact Option.some.inj this
theorem Tot.at_ {l : List Cand} (h : Tot l) {i j : Nat} (hi : i < l.length) (hj : j < l.length) (hne : i ≠ j) : Prec (F l i) (F l j) ∨ Prec (F l j) (F l i) := by
  have := List.pairwise_iff_getElem.1 h
  rcases Nat.lt_or_gt_of_ne hne with hlt | hlt
  · have := this i j hi hj hlt; rw [F_get hi, F_get hj] at this; exact this
  · have := this j i hj hi hlt; rw [F_get hi, F_get hj] at this; exact this.symm
theorem Tot.not {l : List Cand} (h : Tot l) {i j : Nat} (hi : i < l.length) (hj : j < l.length) (hne : i ≠ j) (hp : ¬ Prec (F l i) (F l j)) : Prec (F l j) (F l i) := (h.at_ hi hj hne).resolve_left hp
theorem Tot.inj {l : List Cand} (h : Tot l) {i j : Nat} (hi : i < l.length) (hj : j < l.length) (e : F l i = F l j) : i = j := by
  rcases Nat.decEq i j with hne | hne
  · rcases h.at_ hi hj hne with g | g <;> rw [e] at g <;> exact absurd g (Prec.irrefl _)
  · exact hne
/-- Exchanges within a part. -/
structure SP (l l' : List Cand) (a b : Nat) : Prop where
  perm : l'.Perm l
  out : ∀ i, (i < a ∨ b ≤ i) → F l' i = F l i
theorem SP.refl (l : List Cand) (a b : Nat) : SP l l a b := ⟨List.Perm.refl _, fun _ _ => rfl⟩
theorem SP.trans {l l' l'' : List Cand} {a b : Nat} (h : SP l l' a b) (g : SP l' l'' a b) : SP l l'' a b := ⟨g.perm.trans h.perm, fun i hi => (g.out i hi).trans (h.out i hi)⟩
theorem SP.mono {l l' : List Cand} {a b a' b' : Nat} (h : SP l l' a b) (ha : a' ≤ a) (hb : b ≤ b') : SP l l' a' b' := ⟨h.perm, fun i hi => h.out i (by omega)⟩
theorem SP.len {l l' : List Cand} {a b : Nat} (h : SP l l' a b) : l'.length = l.length := h.perm.length_eq
theorem SP.sw {l l' : List Cand} {a b : Nat} (h : SP l l' a b) {i k : Nat} (hi : i < l.length) (hk : k < l.length) (h1 : a ≤ i ∧ i < b) (h2 : a ≤ k ∧ k < b) : SP l (sw l' i k) a b :=
  h.trans ⟨sw_perm (by rw [h.len]; exact hi) (by rw [h.len]; exact hk), fun j hj => by rw [F_sw (by rw [h.len]; exact hi) (by rw [h.len]; exact hk), if_neg (by omega), if_neg (by omega)]⟩
theorem SP.mem {l l' : List Cand} {a b : Nat} (h : SP l l' a b) (ht : Tot l) {i : Nat} (hi : a ≤ i ∧ i < b) (hb : b ≤ l.length) : ∃ j, a ≤ j ∧ j < b ∧ F l' i = F l j := by
  have hl : i < l'.length := by rw [h.len]; omega
  have hm : F l' i ∈ l := h.perm.mem_iff.1 (List.mem_of_getElem? (F_at hl))
  obtain ⟨j, hj, e⟩ := List.getElem_of_mem hm
  rw [F_get hj] at e
  by_cases hr : a ≤ j ∧ j < b
  · exact ⟨j, hr.1, hr.2, e.symm⟩
  · have := h.out j (by omega)
    rw [e] at this
    have := (ht.perm h.perm).inj (by rw [h.len]; exact hj) hl this
    omega
def Srt (l : List Cand) (a b : Nat) : Prop := ∀ i j, a ≤ i → i < j → j < b → Prec (F l i) (F l j)
theorem Srt.one (l : List Cand) {a b : Nat} (h : b ≤ a + 1) : Srt l a b := fun i j h1 h2 h3 => by omega
theorem Srt.sub {l : List Cand} {a b a' b' : Nat} (h : Srt l a b) (ha : a ≤ a') (hb : b' ≤ b) : Srt l a' b' := fun i j h1 h2 h3 => h i j (by omega) h2 (by omega)
theorem Srt.same {l l' : List Cand} {a b : Nat} (h : Srt l a b) (e : ∀ i, a ≤ i → i < b → F l' i = F l i) : Srt l' a b := fun i j h1 h2 h3 => by rw [e i h1 (by omega), e j (by omega) h3]; exact h i j h1 h2 h3
/-- Within a round of insertion: the element at j is out of place, at most. -/
def Ins (l : List Cand) (a i j : Nat) : Prop := (∀ p q, a ≤ p → p < q → q ≤ i → p ≠ j → q ≠ j → Prec (F l p) (F l q)) ∧ ∀ q, j < q → q ≤ i → Prec (F l j) (F l q)
theorem Ins.start {l : List Cand} {a i : Nat} (h : Srt l a i) : Ins l a i i := ⟨fun p q h1 h2 h3 h4 h5 => h p q h1 h2 (by omega), fun q h1 h2 => by omega⟩
theorem Ins.stop {l : List Cand} {a i j : Nat} (h : Ins l a i j) (hj : j ≤ i) (hs : j = a ∨ (a < j ∧ Prec (F l (j - 1)) (F l j))) : Srt l a (i + 1) := fun p q h1 h2 h3 => by
  by_cases hq : q = j
  · subst hq
    rcases hs with rfl | ⟨ha, hs⟩
    · omega
    · by_cases hp : p = q - 1
      · subst hp; exact hs
      · exact (h.1 p (q - 1) h1 (by omega) (by omega) (by omega) (by omega)).trans hs
  · by_cases hp : p = j
    · subst hp; exact h.2 q h2 (by omega)
    · exact h.1 p q h1 h2 (by omega) hp hq
theorem Ins.step {l : List Cand} {a i j : Nat} (h : Ins l a i (j + 1)) (ha : a ≤ j) (hi : i < l.length) (hj : j + 1 ≤ i) (hp : Prec (F l (j + 1)) (F l j)) : Ins (sw l (j + 1) j) a i j := by
  have E := F_sw (l := l) (i := j + 1) (k := j) (by omega) (by omega)
  refine ⟨fun p q h1 h2 h3 h4 h5 => ?_, fun q h1 h2 => ?_⟩
  · rw [E, E, if_neg h4, if_neg h5]
    by_cases e1 : p = j + 1
    · rw [if_pos e1, if_neg (by omega)]; exact h.1 j q (by omega) (by omega) h3 (by omega) (by omega)
    · rw [if_neg e1]
      by_cases e2 : q = j + 1
      · rw [if_pos e2]; exact h.1 p j h1 (by omega) (by omega) e1 (by omega)
      · rw [if_neg e2]; exact h.1 p q h1 h2 h3 e1 e2
  · rw [E, E, if_pos rfl, if_neg (by omega)]
    by_cases e2 : q = j + 1
    · rw [if_pos e2]; exact hp
    · rw [if_neg e2]; exact h.2 q (by omega) h2
end Go.Proofs.YtdgaflcnigljlaaGreatDoor
/-
  Contracts of package sort at rows of candidates, through its interface: insertion sort. No further condition.
-/
namespace Go.Proofs.YtdgaflcnigljlaaGreatDoor
open Go.RowKit Go.Proofs Go.Proofs.YtdgaflcnigljlaaGreatDoorW.PrintWords
set_option linter.unusedVariables false
theorem mLen (v : Value) (w : World) : (method 435 186 v "Len").run Tryz.prog w = .ok (289, v) w := by kernel_rfl
theorem mLess (v : Value) (w : World) : (method 435 186 v "Less").run Tryz.prog w = .ok (290, v) w := by kernel_rfl
theorem mSwap (v : Value) (w : World) : (method 435 186 v "Swap").run Tryz.prog w = .ok (291, v) w := by kernel_rfl
theorem lessF_c (l : List Cand) (base g cap n : Nat) (w0 w : World) (hS : Hid (CoBox w0 w base g cap n l)) (i k : Nat) (hi : i < l.length) (hk : k < l.length) :
    Calls Tryz.prog 290 #[.slice (some ⟨g, 0, none⟩) n cap, .int .i64 i, .int .i64 k] w fun e w' => e = .returned (.bool (decide (Prec (F l i) (F l k)))) ∧ Below w.heap.size w w' :=
  less_c l base g cap n w0 w hS i k _ _ (Lib.hid (F_at hi)) (Lib.hid (F_at hk))
theorem swapF_c (l : List Cand) (base g cap n : Nat) (w0 w : World) (hS : Hid (CoBox w0 w base g cap n l)) (i k : Nat) (hi : i < l.length) (hk : k < l.length) (hne : i ≠ k) :
    Calls Tryz.prog 291 #[.slice (some ⟨g, 0, none⟩) n cap, .int .i64 i, .int .i64 k] w fun e w' => e = .returned (.tuple #[]) ∧ CoBox w0 w' base g cap n (sw l i k) :=
  swap_c l base g cap n w0 w hS i k _ _ (Lib.hid (F_at hi)) (Lib.hid (F_at hk)) hne
set_option maxRecDepth 20000 in
set_option maxHeartbeats 1000000 in
theorem isort_c (l : List Cand) (base g cap n : Nat) (w0 w : World) (hS : Hid (CoBox w0 w base g cap n l)) (ht : Hid (Tot l)) (a b : Nat) (hb : b ≤ l.length) (h1 : l.length ≤ 1000) (ha : a < b) :
    Calls Tryz.prog 205 #[.iface 186 (.slice (some ⟨g, 0, none⟩) n cap), .int .i64 a, .int .i64 b] w fun e w' => ∃ l', (e = .returned (.tuple #[]) ∧ CoBox w0 w' base g cap n l') ∧ SP l l' a b ∧ Srt l' a b := by
  have hm1 := mLess (.slice (some ⟨g, 0, none⟩) n cap)
  have hm2 := mSwap (.slice (some ⟨g, 0, none⟩) n cap)
  go_enter Tryz.func205, Tryz.ntmps205
  go_wp2_with fail
  go_loopw [6] (fun i wr => ∃ (k : Nat) (rows : List Cand), a < k ∧ k ≤ b ∧ i = .int .i64 k ∧ Hid (CoBox w0 wr base g cap n rows) ∧ Hid (SP l rows a b ∧ Srt rows a k)) (fun i _ => (b - intOf i).toNat)
  case atStart => exact ⟨a + 1, l, by omega, by omega, by go_num, hS, Lib.hid ⟨SP.refl _ _ _, Srt.one _ (Nat.le_refl _)⟩⟩
  case round =>
    obtain ⟨k, rows, k1, k2, rfl, HS, HQ⟩ := hrel
    have rl := HQ.out.1.len
    by_cases hk : k < b
    · have tb : decide ((k : Int) < b) = true := by simp; omega
      have HN := Lib.hid (Ins.start HQ.out.2)
      go_wp2_with fail
      go_loopw [7] (fun j wr => ∃ (m : Nat) (rows : List Cand), j = .int .i64 m ∧ a ≤ m ∧ m ≤ k ∧ Hid (CoBox w0 wr base g cap n rows) ∧ Hid (SP l rows a b ∧ Ins rows a k m)) (fun j _ => (intOf j).toNat)
      case atStart => exact ⟨k, rows, rfl, by omega, Nat.le_refl _, HS, Lib.hid ⟨HQ.out.1, HN.out⟩⟩
      case round =>
        clear HS HN HQ rl rows
        obtain ⟨m, rows, rfl, m1, m2, HS, HQ⟩ := hrel
        have rl := HQ.out.1.len
        by_cases hm : a < m
        · obtain ⟨j, hj⟩ : ∃ j, m = j + 1 := ⟨m - 1, by omega⟩
          have HJ := Lib.hid hj
          have t0 : decide ((a : Int) < (m : Int)) = true := by simp; omega
          have j1 : (m : Int) - 1 = (j : Int) := by omega
          have b1 : m < rows.length := by omega
          have b2 : j < rows.length := by omega
          have b3 : m ≠ j := by omega
          have b4 : a ≤ j := by omega
          have b5 : m ≤ 1000 := by omega
          clear hj
          by_cases hp : Prec (F rows m) (F rows j)
          · have tp : decide (Prec (F rows m) (F rows j)) = true := by simp [hp]
            have HP := Lib.hid (show SP l (sw rows m j) a b ∧ Ins (sw rows m j) a k j from ⟨HQ.out.1.sw (by omega) (by omega) (by omega) (by have := HJ.out; omega), by
              have := HJ.out; subst this; exact Ins.step HQ.out.2 b4 (by omega) (by omega) hp⟩)
            clear hp
            go_wp2_with (first | (go_at_call 290; with_reducible refine (lessF_c rows base g cap n w0 _ HS m j b1 b2).mono ?_; rintro e w3 ⟨rfl, hw⟩; replace HS := Lib.hid (HS.out.below hw); clear hw) | (go_at_call 291; with_reducible refine (swapF_c rows base g cap n w0 _ HS m j b1 b2 b3).mono ?_; rintro e w4 ⟨rfl, hw⟩; have HS2 := Lib.hid hw; clear hw))
            exact ⟨⟨j, _, rfl, b4, by have := HJ.out; omega, HS2, HP⟩, by simp [intOf]; omega⟩
          · have tp : decide (Prec (F rows m) (F rows j)) = false := by simp [hp]
            have HP := Lib.hid (HQ.out.2.stop m2 (.inr ⟨hm, by rw [show m - 1 = j by have := HJ.out; omega]; exact (ht.out.perm HQ.out.1.perm).not b1 b2 b3 hp⟩))
            clear hp
            go_wp2_with (first | (go_at_call 290; with_reducible refine (lessF_c rows base g cap n w0 _ HS m j b1 b2).mono ?_; rintro e w3 ⟨rfl, hw⟩; replace HS := Lib.hid (HS.out.below hw); clear hw))
            exact ⟨⟨k + 1, rows, by omega, by omega, by go_num, HS, Lib.hid ⟨HQ.out.1, HP.out⟩⟩, by simp [intOf]; omega⟩
        · obtain rfl : a = m := by omega
          have HP := Lib.hid (HQ.out.2.stop m2 (.inl rfl))
          have t0 : decide ((a : Int) < (a : Int)) = false := by simp
          go_wp2_with fail
          exact ⟨⟨k + 1, rows, by omega, by omega, by go_num, HS, Lib.hid ⟨HQ.out.1, HP.out⟩⟩, by simp [intOf]; omega⟩
    · obtain rfl : k = b := by omega
      go_wp2_with fail
      go_end0
      exact ⟨rows, ⟨rfl, HS.out⟩, HQ.out.1, HQ.out.2⟩
end Go.Proofs.YtdgaflcnigljlaaGreatDoor
