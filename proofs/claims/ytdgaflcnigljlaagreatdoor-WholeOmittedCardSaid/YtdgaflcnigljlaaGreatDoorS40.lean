/-
  Contracts and plain facts for the laws on the whole program: the parts below say each what they are. No further condition.
-/
import Derived.Test.YtdgaflcnigljlaaGreatDoorS28
import Derived.Deep.RegionLaw
import Derived.Deep.AppendLies
import Derived.Deep.RegionHeld3
set_option linter.unusedSimpArgs false
/-
  Contract of reference 17: a copy of a catalogue. At all small catalogues. No further condition.
-/
namespace Go.Proofs.YtdgaflcnigljlaaGreatDoor
open Go.RowKit Go.Proofs Go.Proofs.YtdgaflcnigljlaaGreatDoorW.PrintWords
set_option linter.unusedVariables false
theorem flat_look {l : List (Array Value)} {sz : Nat} (h : ∀ r ∈ l, r.size = sz) (hs : 0 < sz) {j : Nat} {u : Value} (hj : (l.flatMap Array.toList)[j]? = some u) : ∃ cs, l[j / sz]? = some cs ∧ cs[j % sz]? = some u := by
  have hl : (l.flatMap Array.toList).length = l.length * sz := flat_len h
  have hlt : j < l.length * sz := by rw [← hl]; exact (List.getElem?_eq_some_iff.1 hj).1
  have hk : j / sz < l.length := Nat.div_lt_of_lt_mul (by rw [Nat.mul_comm]; exact hlt)
  refine ⟨l[j / sz], List.getElem?_eq_getElem hk, ?_⟩
  rw [← hj, ← flat_at h (List.getElem?_eq_getElem hk) (Nat.mod_lt _ hs), Nat.div_add_mod' j sz]
theorem append_none {P : Program} {w : World} (base : Nat) (t ty e : TypeId) (i : TypeInfo) (size : Nat) (ht : P.underlying t = some (.slice e)) (hi : P.info? e = some i)
    (v : Value) (n c : Nat) (xs : List Value) (hown : w.ownsRow base e size v n xs) :
    (Builtin.append_ #[t, t] ty #[v, .slice none 0 c]).run P w = .ok v w := by
  rcases hown.2 with ⟨rfl, rfl⟩ | ⟨g, cap, cur, rfl, _, _, hnc, _⟩
  · simp [Builtin.append_, run_underlying ht, sizeOf, typeInfo, hi, Builtin.lenOf, Builtin.firstCells]
  · simp [Builtin.append_, run_underlying ht, sizeOf, typeInfo, hi, Builtin.lenOf, Builtin.firstCells, hnc, storeCells]
/-- Rows of a slice that lies in memory, appended to a row of one's own. -/
theorem step_cat {P : Program} {ops : Array Oper} {o : Oper} {a : Act} {K : Act → World → Prop} {Q : Exit → Act → World → Prop} {E : Prop} {W : World} {base bytes : Nat} {z : Value} {rows : List (Array Value)} (t e : TypeId) (hgd : o.guard = none) (s x : Operand)
    (ho : o.op = .call { callee := .builtin .append, args := #[s, x], argTypes := #[t, t] })
    (ht : P.underlying t = some (.slice e)) (hinfo : (P.info? e).map (fun i => (i.zero, i.size, i.bytes)) = some (some z, 9, bytes)) (hz : z.cells.size = 9) (hb0 : 0 < bytes)
    (v : Value) (hs : a.eval s = v) (A : Option Addr) (m c : Nat) (hx : a.eval x = .slice A m c) (R : List (Array Value)) (hm : m = R.length) (hR : ∀ r ∈ R, r.size = 9) (h1 : ∀ r ∈ R, ∀ q ∈ r.toList, q.oneCell' = true)
    (HU : Rows9 W A R) (HO : Own W base e 9 v rows) (hbase : base ≤ W.heap.size) (hl : (rows.length + R.length) * bytes ≤ 140737488355328)
    (h : ∀ v1 w1, Own w1 base e 9 v1 (rows ++ R) → Below base W w1 → W.grownBy w1 v.ownBlock → K (a.put o.dst v1) w1) :
    if Region.wanted o (yielded ops a.tmps) = true then Oper.wp P o a W K Q else E := by
  have hw : Region.wanted o (yielded ops a.tmps) = true := by simp [Region.wanted, hgd]
  rw [if_pos hw]
  obtain ⟨i0, hi, hzz⟩ := Option.map_eq_some_iff.1 hinfo
  simp only [Prod.mk.injEq] at hzz
  obtain ⟨hz0, hz1, hz2⟩ := hzz
  have hlen : rows.length + R.length ≤ 140737488355328 := Nat.le_trans (Nat.le_mul_of_pos_right _ hb0) hl
  have all : ∀ r ∈ rows ++ R, r.size = 9 := fun r hr => by
    rcases List.mem_append.1 hr with hr | hr
    · exact HO.2 r hr
    · exact hR r hr
  subst hm
  cases A with
  | none =>
    have : R = [] := by
      cases R with
      | nil => rfl
      | cons r R => obtain ⟨ad, ha, _⟩ := HU 0 r rfl; cases ha
    subst this
    have hr := append_none (P := P) base t o.type e i0 9 ht hi v _ c _ HO.1
    unfold Oper.wp execOp
    simp only [ho, resolve, invoke, builtin, Sem.run_bind, Sem.run_pure, Result.andThen_ok, List.map_toArray, List.map_cons, List.map_nil, hs, hx, List.length_nil, hr]
    exact h v W (by simpa using HO) (Below.refl _ _) (World.grownBy.refl _ _)
  | some ad =>
    obtain ⟨v1, w1, hr, h2, h3, _, h5⟩ := run_append_own_at (P := P) W base t o.type e i0 z 9 bytes ht hi hz0 hz1 hz2 hz (by decide) v rows.length _ HO.1 ad R.length c (R.flatMap Array.toList) (flat_len hR)
      (fun j u hj => by
        obtain ⟨cs, q1, q2⟩ := flat_look hR (by decide) hj
        obtain ⟨ad', e', hr⟩ := HU _ cs q1
        cases e'
        have hc := hr _ u q2
        rw [← hc]
        congr 1
        unfold Addr.add
        have hd : j / 9 * 9 + j % 9 = j := Nat.div_add_mod' j 9
        rcases Nat.eq_zero_or_pos j with rfl | hj0
        · simp
        · rcases Nat.eq_zero_or_pos (j % 9) with h0 | h0
          · rw [if_pos h0, if_neg (by omega), if_neg (by omega)]; congr 1; omega
          · rw [if_neg (by omega), if_neg (by omega)]
            by_cases h4 : j / 9 * 9 = 0
            · rw [if_pos h4]; congr 1; omega
            · rw [if_neg h4]; congr 1; simp only []; omega)
      (fun q hq => by obtain ⟨r, hr, hq⟩ := List.mem_flatMap.1 hq; exact h1 r hr q hq) (by simp only [maxLen]; omega) hl hbase
    unfold Oper.wp execOp
    simp only [ho, resolve, invoke, builtin, Sem.run_bind, Sem.run_pure, Result.andThen_ok, List.map_toArray, List.map_cons, List.map_nil, hs, hx, hr]
    exact h v1 w1 ⟨by rw [List.length_append, List.flatMap_append]; exact h2, all⟩ ((Below.refl _ _).grown h3 hbase (own_base HO.1)) h3
theorem info67c : (Tryz.prog.info? 67).map (fun i => (i.zero, i.size, i.bytes)) = some (some (.agg #[.string ⟨#[]⟩, .int .i64 0, .int .i64 0, .int .i64 0, .int .i64 0, .int .i64 0, .int .i64 0, .int .i64 0, .int .i64 0]), 9, 80) := by kernel_rfl
theorem info63c : (Tryz.prog.info? 63).map (fun i => (i.zero, i.size, i.bytes)) = some (some (.agg #[.string ⟨#[]⟩, .int .i64 0, .int .i64 0, .int .i64 0, .int .i64 0, .int .i64 0, .int .i64 0, .int .i64 0, .int .i64 0]), 9, 80) := by kernel_rfl
theorem sea_one (l : List Sea) : ∀ r ∈ l.map Sea.cells, ∀ q ∈ r.toList, q.oneCell' = true := fun r hr q hq => by
  obtain ⟨c, _, rfl⟩ := List.mem_map.1 hr
  simp only [Sea.cells, List.mem_cons, List.not_mem_nil, or_false] at hq
  rcases hq with rfl | rfl | rfl | rfl | rfl | rfl | rfl | rfl | rfl <;> rfl
theorem fea_one (l : List Fea) : ∀ r ∈ l.map Fea.cells, ∀ q ∈ r.toList, q.oneCell' = true := fun r hr q hq => by
  obtain ⟨c, _, rfl⟩ := List.mem_map.1 hr
  simp only [Fea.cells, List.mem_cons, List.not_mem_nil, or_false] at hq
  rcases hq with rfl | rfl | rfl | rfl | rfl | rfl | rfl | rfl | rfl <;> rfl
theorem sea_sz (l : List Sea) : ∀ r ∈ l.map Sea.cells, r.size = 9 := fun r hr => by
  obtain ⟨c, _, rfl⟩ := List.mem_map.1 hr; rfl
theorem fea_sz (l : List Fea) : ∀ r ∈ l.map Fea.cells, r.size = 9 := fun r hr => by
  obtain ⟨c, _, rfl⟩ := List.mem_map.1 hr; rfl
set_option maxRecDepth 20000 in
set_option maxHeartbeats 1000000 in
theorem rcopy_c (C : Cat) (A1 : Option Addr) (n1 c1 : Nat) (A2 : Option Addr) (n2 c2 : Nat) (w : World) (hI : Hid (CatIn w C A1 n1 c1 A2 n2 c2)) (k1 : Hid (C.seas.length ≤ 8)) (k2 : Hid (C.feas.length ≤ 31)) :
    Calls Tryz.prog 23 #[.agg #[.int .i64 C.free, .slice A1 n1 c1, .slice A2 n2 c2]] w fun e w' => ∃ B1 m1 d1 B2 m2 d2, e = .returned (.agg #[.int .i64 C.free, .slice B1 m1 d1, .slice B2 m2 d2]) ∧ Own w' w.heap.size 67 9 (.slice B1 m1 d1) (C.seas.map Sea.cells) ∧ Own w' w.heap.size 63 9 (.slice B2 m2 d2) (C.feas.map Fea.cells) ∧ Below w.heap.size w w' := by
  go_enter Tryz.func23, Tryz.ntmps23
  go_upto_region 1 with fail
  obtain ⟨W, hW⟩ : ∃ W, W = (w.alloc (.cells #[.int .i64 C.free, .slice A1 n1 c1, .slice A2 n2 c2] 25)).alloc (.cells #[.int .i64 0, .slice none 0 0, .slice none 0 0] 25) := ⟨_, rfl⟩
  have HR := Lib.hid (show RgB w W C A1 n1 c1 A2 n2 c2 by rw [hW]; exact (RgB.new w C A1 n1 c1 A2 n2 c2).below ((Below.refl _ _).alloc (Nat.le_refl _) _))
  have HQ := Lib.hid (show Blk W (w.heap.size + 1) #[.int .i64 0, .slice none 0 0, .slice none 0 0] 25 by rw [hW]; exact Blk.new2 _ _ _ _)
  rw [← hW]
  clear hW
  obtain ⟨⟨x0, x1, x2⟩, _⟩ := HR.out.box.c3
  have xl := HR.out.box.lt
  have hB : Below W.heap.size W W.drew := (Below.refl _ _).drew
  have hA := ((Below.refl W.heap.size W).alloc (Nat.le_refl _) (.cells #[] 67)).drew
  have hAB := (((Below.refl W.heap.size W).alloc (Nat.le_refl _) (.cells #[] 67)).alloc (by simp) (.cells #[] 63)).drew
  have hC := ((Below.refl W.heap.size W).alloc (Nat.le_refl _) (.cells #[] 63)).drew
  have hCD := (((Below.refl W.heap.size W).alloc (Nat.le_refl _) (.cells #[] 63)).alloc (by simp) (.cells #[] 67)).drew
  have HC : ∀ V, Below W.heap.size W V → V.cell? ⟨w.heap.size, 0, none⟩ = some (.int .i64 C.free) ∧ V.cell? ⟨w.heap.size, 1, none⟩ = some (.slice A1 n1 c1) ∧ V.cell? ⟨w.heap.size, 2, none⟩ = some (.slice A2 n2 c2) := fun V h => ⟨(HR.out.box.below h).cell 0, (HR.out.box.below h).cell 1, (HR.out.box.below h).cell 2⟩
  have HI : ∀ V, Below W.heap.size W V → CatIn V C A1 n1 c1 A2 n2 c2 := fun V h => hI.out.below (HR.out.below h).bel
  have a1 : Own (W.alloc (.cells #[] 67)).drew W.heap.size 67 9 (.slice (some ⟨W.heap.size, 0, none⟩) 0 0) [] := (Own.lit0 W 67 9).below (Below.refl _ _).drew
  have b1 : Own ((W.alloc (.cells #[] 67)).alloc (.cells #[] 63)).drew W.heap.size 67 9 (.slice (some ⟨W.heap.size, 0, none⟩) 0 0) [] := ((Own.lit0 W 67 9).alloc (.cells #[] 63)).below (Below.refl _ _).drew
  have b2 : Own ((W.alloc (.cells #[] 67)).alloc (.cells #[] 63)).drew W.heap.size 63 9 (.slice (some ⟨W.heap.size + 1, 0, none⟩) 0 0) [] := by
    have := Own.lit0 (W.alloc (.cells #[] 67)) 63 9
    simp at this
    exact (this.less (by simp)).below (Below.refl _ _).drew
  have d2 : Own ((W.alloc (.cells #[] 63)).alloc (.cells #[] 67)).drew W.heap.size 63 9 (.slice (some ⟨W.heap.size, 0, none⟩) 0 0) [] := ((Own.lit0 W 63 9).alloc (.cells #[] 67)).below (Below.refl _ _).drew
  have f1' : Own ((W.alloc (.cells #[] 63)).alloc (.cells #[] 67)).drew W.heap.size 67 9 (.slice (some ⟨W.heap.size + 1, 0, none⟩) 0 0) [] := by
    have := Own.lit0 (W.alloc (.cells #[] 63)) 67 9
    simp at this
    exact (this.less (by simp)).below (Below.refl _ _).drew
  have hqe : w.heap.size ≠ w.heap.size + 1 := by omega
  have L1 := sea_sz C.seas
  have L2 := fea_sz C.feas
  have E1 := Lib.hid (show n1 = (C.seas.map Sea.cells).length by rw [List.length_map]; exact hI.out.e1)
  have E2 := Lib.hid (show n2 = (C.feas.map Fea.cells).length by rw [List.length_map]; exact hI.out.e2)
  have K1 : (0 + (C.seas.map Sea.cells).length) * 80 ≤ 140737488355328 := by rw [List.length_map]; have := k1.out; omega
  have K2 : (0 + (C.feas.map Fea.cells).length) * 80 ≤ 140737488355328 := by rw [List.length_map]; have := k2.out; omega
  go_region_held3 (fun w' => w'.cell? ⟨w.heap.size, 0, none⟩ = some (.int .i64 C.free) ∧ w'.cell? ⟨w.heap.size, 1, none⟩ = some (.slice A1 n1 c1) ∧ w'.cell? ⟨w.heap.size, 2, none⟩ = some (.slice A2 n2 c2))
    (first
      | (with_reducible exact HC _ hB)
      | (with_reducible exact HC _ hA)
      | (with_reducible exact HC _ hAB)
      | (with_reducible exact HC _ hC)
      | (with_reducible exact HC _ hCD)
      | (simp only [cell_set_ne hqe]; with_reducible exact HC _ hB)
      | (with_reducible exact HC _ (hB.alloc hB.size _)))
    (first
      | (refine step_cat (base := W.heap.size) 22 67 rfl (.tmp 5) (.tmp 7) rfl Tryz.underlying22 info67c rfl (by decide) _ rfl A1 n1 c1 rfl (C.seas.map Sea.cells) E1.out L1 (sea_one _) (HI _ hA).sea a1 hA.size K1 ?_; intro v1 w1 o1 hb1 hg1; obtain ⟨p1, m1, j1, rfl⟩ := o1.named; replace hB := hA.trans hb1; clear a1 b1 b2 d2 f1' hA hAB hC hCD)
      | (refine step_cat (base := W.heap.size) 22 67 rfl (.tmp 5) (.tmp 7) rfl Tryz.underlying22 info67c rfl (by decide) _ rfl A1 n1 c1 rfl (C.seas.map Sea.cells) E1.out L1 (sea_one _) (HI _ hAB).sea b1 hAB.size K1 ?_; intro v1 w1 o1 hb1 hg1; obtain ⟨p1, m1, j1, rfl⟩ := o1.named; have s2 := b2.kept hg1 (b2.apart_ty b1 (by decide)); replace hB := hAB.trans hb1; clear a1 b1 b2 d2 f1' hA hAB hC hCD)
      | (refine step_cat (base := W.heap.size) 22 67 rfl (.tmp 5) (.tmp 7) rfl Tryz.underlying22 info67c rfl (by decide) _ rfl A1 n1 c1 rfl (C.seas.map Sea.cells) E1.out L1 (sea_one _) (HI _ hCD).sea f1' hCD.size K1 ?_; intro v1 w1 o1 hb1 hg1; obtain ⟨p1, m1, j1, rfl⟩ := o1.named; have s2 := d2.kept hg1 (d2.apart_ty f1' (by decide)); replace hB := hCD.trans hb1; clear a1 b1 b2 d2 f1' hA hAB hC hCD)
      | (refine step_cat (base := W.heap.size) 23 63 rfl (.tmp 9) (.tmp 11) rfl Tryz.underlying23 info63c rfl (by decide) _ rfl A2 n2 c2 rfl (C.feas.map Fea.cells) E2.out L2 (fea_one _) (HI _ hB).fea s2 hB.size K2 ?_; intro v2 w2 o2 hb2 hg2; obtain ⟨p2, m2, j2, rfl⟩ := o2.named; replace o1 := o1.kept hg2 (o1.apart_ty s2 (by decide)); replace hB := hB.trans hb2; have q0 := (HQ.out.below hB).cell 0; have q1 := (HQ.out.below hB).cell 1; have q2 := (HQ.out.below hB).cell 2; have f0 := (HQ.out.below hB).frozen 0; have f1 := (HQ.out.below hB).frozen 1; have f2 := (HQ.out.below hB).frozen 2)
      | (refine step_cat (base := W.heap.size) 23 63 rfl (.tmp 9) (.tmp 11) rfl Tryz.underlying23 info63c rfl (by decide) _ rfl A2 n2 c2 rfl (C.feas.map Fea.cells) E2.out L2 (fea_one _) (HI _ (hB.alloc hB.size _)).fea ((Own.lit0 w1 63 9).less hB.size) (hB.alloc hB.size _).size K2 ?_; intro v2 w2 o2 hb2 hg2; obtain ⟨p2, m2, j2, rfl⟩ := o2.named; replace o1 := (o1.alloc _).kept hg2 ((o1.alloc _).apart_ty ((Own.lit0 w1 63 9).less hB.size) (by decide)); replace hB := (hB.alloc hB.size _).trans hb2; have q0 := (HQ.out.below hB).cell 0; have q1 := (HQ.out.below hB).cell 1; have q2 := (HQ.out.below hB).cell 2; have f0 := (HQ.out.below hB).frozen 0; have f1 := (HQ.out.below hB).frozen 1; have f2 := (HQ.out.below hB).frozen 2))
  all_goals
    rw [List.nil_append] at o1 o2
    have QQ := Lib.hid ((((HQ.out.below hB).put 0 (.int .i64 C.free) rfl).put 1 (.slice p1 m1 j1) rfl).put 2 (.slice p2 m2 j2) rfl)
    have G := ((gs_set w2 (w.heap.size + 1) 0 (.int .i64 C.free)).trans (gs_set _ _ 1 (.slice p1 m1 j1))).trans (gs_set _ _ 2 (.slice p2 m2 j2))
    have O1 := Lib.hid ((o1.kept G (.inr (o1.ne_blk (HQ.out.below hB) (by decide)))).less (show w.heap.size ≤ W.heap.size from HR.out.bel.size))
    have O2 := Lib.hid ((o2.kept G (.inr (o2.ne_blk (HQ.out.below hB) (by decide)))).less (show w.heap.size ≤ W.heap.size from HR.out.bel.size))
    have BB := Lib.hid (((((HR.out.below hB).bel).setCell (show w.heap.size ≤ w.heap.size + 1 by omega) (.int .i64 C.free) (p := ⟨w.heap.size + 1, 0, none⟩)).setCell (show w.heap.size ≤ w.heap.size + 1 by omega) (.slice p1 m1 j1) (p := ⟨w.heap.size + 1, 1, none⟩)).setCell (show w.heap.size ≤ w.heap.size + 1 by omega) (.slice p2 m2 j2) (p := ⟨w.heap.size + 1, 2, none⟩))
    clear G o1 o2 q0 q1 q2 f0 f1 f2 hB HC HI
    go_wp2_with fail
    refine bodyPost_ret (results_cell_row rfl _ _ (w.heap.size + 1) 25 #[.int .i64 C.free, .slice p1 m1 j1, .slice p2 m2 j2] (0, 0) _ rfl QQ.out Tryz.underlying25 rfl (by kernel_rfl)) rfl ?_
    exact ⟨_, _, _, _, _, _, rfl, O1.out, O2.out, BB.out⟩
end Go.Proofs.YtdgaflcnigljlaaGreatDoor
