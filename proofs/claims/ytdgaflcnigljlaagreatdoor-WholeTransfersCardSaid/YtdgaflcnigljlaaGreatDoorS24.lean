/-
  Contracts and plain facts for the laws on the whole program: the parts below say each what they are. No further condition.
-/
import Derived.Test.YtdgaflcnigljlaaGreatDoorS23
import Derived.BigRegion
import Derived.Deep.RegionHeld3
set_option linter.unusedSimpArgs false
/-
  Contracts of package ordo: the entry of a day. At builders of calendars of small well-formed catalogues, years from 1583 to 1000000000. No further condition.
-/
namespace Go.Proofs.YtdgaflcnigljlaaGreatDoor
open Go.RowKit Go.Proofs Go.MapKept Go.Proofs.YtdgaflcnigljlaaGreatDoorW.PrintWords
set_option linter.unusedVariables false
/-- An entry, its lists by their feasts. -/
structure EntI where
  kind : Int
  prin : ByteArray
  rank : Int
  fy : Int
  fm : Int
  fd : Int
  com : List Int
  omi : List Int
def feaOf (C : Cat) (i : Int) : ByteArray × Int := match C.feas[i.toNat]? with
  | some f => (f.id, f.rank)
  | none => (⟨#[]⟩, 0)
def vEnI (C : Cat) (y : Int) (l : List Mv) (i : Nat) : EntI := match vTake l i with
  | none => ⟨(vRz C y i).p.kind, (vRz C y i).p.id, (vRz C y i).p.rank, 0, 0, 0, (vRz C y i).cm, (vRz C y i).om⟩
  | some m => ⟨3, (feaOf C m.feast).1, (feaOf C m.feast).2, vYear (vFirst y + m.src), mMon (vFirst y + m.src), mDay (vFirst y + m.src),
      if (vRz C y i).p.kind = 2 ∧ ¬ polOf C (vRz C y i).p.idx = 3 then (vRz C y i).p.idx :: (vRz C y i).cm else (vRz C y i).cm,
      if (vRz C y i).p.kind = 2 ∧ polOf C (vRz C y i).p.idx = 3 then (vRz C y i).p.idx :: (vRz C y i).om else (vRz C y i).om⟩
@[reducible] def eC (Y M D wd : Int) (sea : ByteArray) (wk kind : Int) (id : ByteArray) (rank fy fm fd : Int) (v1 v2 : Value) : Array Value := #[.int .i64 Y, .int .i64 M, .int .i64 D, .int .i64 wd, .string sea, .int .i64 wk, .int .i64 kind, .string id, .int .i64 rank, .int .i64 fy, .int .i64 fm, .int .i64 fd, v1, v2]
@[reducible] def eZ : Array Value := #[.int .i64 0, .int .i64 0, .int .i64 0, .int .i64 0, .string ⟨#[]⟩, .int .i64 0, .int .i64 0, .string ⟨#[]⟩, .int .i64 0, .int .i64 0, .int .i64 0, .int .i64 0, .slice none 0 0, .slice none 0 0]
structure E1Box (w W : World) (q : Nat) (rc : Array Value) : Prop where
  bel : Below w.heap.size w W
  res : Blk W w.heap.size eZ 42
  r : Blk W q rc 117
  ql : w.heap.size < q
structure EnBox (w W : World) (q e : Nat) (rc ec : Array Value) : Prop where
  bel : Below w.heap.size w W
  res : Blk W w.heap.size eZ 42
  r : Blk W q rc 117
  eb : Blk W e ec 42
  ql : w.heap.size < q
  el : w.heap.size < e
section
variable {w W W2 : World} {q e : Nat} {rc ec : Array Value}
theorem E1Box.below (h : E1Box w W q rc) (hb : Below W.heap.size W W2) : E1Box w W2 q rc := ⟨below_then h.bel h.bel.size hb, h.res.below hb, h.r.below hb, h.ql⟩
theorem EnBox.below (h : EnBox w W q e rc ec) (hb : Below W.heap.size W W2) : EnBox w W2 q e rc ec := ⟨below_then h.bel h.bel.size hb, h.res.below hb, h.r.below hb, h.eb.below hb, h.ql, h.el⟩
theorem Blk.ne {g1 g2 : Nat} {a b : Array Value} {t1 t2 : TypeId} (h1 : Blk W g1 a t1) (h2 : Blk W g2 b t2) (hn : t1 ≠ t2) : g1 ≠ g2 := fun e => by
  subst e
  unfold Blk at h1 h2
  rw [h1] at h2
  simp only [Option.some.injEq, Obj.cells.injEq] at h2
  exact hn h2.2.1
theorem EnBox.new (h : E1Box w W q rc) (ec : Array Value) : EnBox w (W.alloc (.cells ec 42)) q W.heap.size rc ec :=
  ⟨h.bel.alloc h.bel.size _, h.res.alloc _, h.r.alloc _, Blk.new _ _ _, h.ql, Nat.lt_trans h.ql h.r.lt⟩
theorem Blk.set14 {x0 x1 x2 x3 x4 x5 x6 x7 x8 x9 x10 x11 x12 x13 : Value} (he : Blk W e eZ 42) : Blk ((((((((((((((W.setCell ⟨e, 0, none⟩ x0).setCell ⟨e, 1, none⟩ x1).setCell ⟨e, 2, none⟩ x2).setCell ⟨e, 3, none⟩ x3).setCell ⟨e, 4, none⟩ x4).setCell ⟨e, 5, none⟩ x5).setCell ⟨e, 6, none⟩ x6).setCell ⟨e, 7, none⟩ x7).setCell ⟨e, 8, none⟩ x8).setCell ⟨e, 9, none⟩ x9).setCell ⟨e, 10, none⟩ x10).setCell ⟨e, 11, none⟩ x11).setCell ⟨e, 12, none⟩ x12).setCell ⟨e, 13, none⟩ x13) e #[x0, x1, x2, x3, x4, x5, x6, x7, x8, x9, x10, x11, x12, x13] 42 := by
  have b0 := Blk.put (cs' := #[x0, .int .i64 0, .int .i64 0, .int .i64 0, .string ⟨#[]⟩, .int .i64 0, .int .i64 0, .string ⟨#[]⟩, .int .i64 0, .int .i64 0, .int .i64 0, .int .i64 0, .slice none 0 0, .slice none 0 0]) he 0 x0 rfl
  have b1 := Blk.put (cs' := #[x0, x1, .int .i64 0, .int .i64 0, .string ⟨#[]⟩, .int .i64 0, .int .i64 0, .string ⟨#[]⟩, .int .i64 0, .int .i64 0, .int .i64 0, .int .i64 0, .slice none 0 0, .slice none 0 0]) b0 1 x1 rfl
  have b2 := Blk.put (cs' := #[x0, x1, x2, .int .i64 0, .string ⟨#[]⟩, .int .i64 0, .int .i64 0, .string ⟨#[]⟩, .int .i64 0, .int .i64 0, .int .i64 0, .int .i64 0, .slice none 0 0, .slice none 0 0]) b1 2 x2 rfl
  have b3 := Blk.put (cs' := #[x0, x1, x2, x3, .string ⟨#[]⟩, .int .i64 0, .int .i64 0, .string ⟨#[]⟩, .int .i64 0, .int .i64 0, .int .i64 0, .int .i64 0, .slice none 0 0, .slice none 0 0]) b2 3 x3 rfl
  have b4 := Blk.put (cs' := #[x0, x1, x2, x3, x4, .int .i64 0, .int .i64 0, .string ⟨#[]⟩, .int .i64 0, .int .i64 0, .int .i64 0, .int .i64 0, .slice none 0 0, .slice none 0 0]) b3 4 x4 rfl
  have b5 := Blk.put (cs' := #[x0, x1, x2, x3, x4, x5, .int .i64 0, .string ⟨#[]⟩, .int .i64 0, .int .i64 0, .int .i64 0, .int .i64 0, .slice none 0 0, .slice none 0 0]) b4 5 x5 rfl
  have b6 := Blk.put (cs' := #[x0, x1, x2, x3, x4, x5, x6, .string ⟨#[]⟩, .int .i64 0, .int .i64 0, .int .i64 0, .int .i64 0, .slice none 0 0, .slice none 0 0]) b5 6 x6 rfl
  have b7 := Blk.put (cs' := #[x0, x1, x2, x3, x4, x5, x6, x7, .int .i64 0, .int .i64 0, .int .i64 0, .int .i64 0, .slice none 0 0, .slice none 0 0]) b6 7 x7 rfl
  have b8 := Blk.put (cs' := #[x0, x1, x2, x3, x4, x5, x6, x7, x8, .int .i64 0, .int .i64 0, .int .i64 0, .slice none 0 0, .slice none 0 0]) b7 8 x8 rfl
  have b9 := Blk.put (cs' := #[x0, x1, x2, x3, x4, x5, x6, x7, x8, x9, .int .i64 0, .int .i64 0, .slice none 0 0, .slice none 0 0]) b8 9 x9 rfl
  have b10 := Blk.put (cs' := #[x0, x1, x2, x3, x4, x5, x6, x7, x8, x9, x10, .int .i64 0, .slice none 0 0, .slice none 0 0]) b9 10 x10 rfl
  have b11 := Blk.put (cs' := #[x0, x1, x2, x3, x4, x5, x6, x7, x8, x9, x10, x11, .slice none 0 0, .slice none 0 0]) b10 11 x11 rfl
  have b12 := Blk.put (cs' := #[x0, x1, x2, x3, x4, x5, x6, x7, x8, x9, x10, x11, x12, .slice none 0 0]) b11 12 x12 rfl
  have b13 := Blk.put (cs' := #[x0, x1, x2, x3, x4, x5, x6, x7, x8, x9, x10, x11, x12, x13]) b12 13 x13 rfl
  exact b13
theorem EnBox.set14 {x0 x1 x2 x3 x4 x5 x6 x7 x8 x9 x10 x11 x12 x13 : Value} (h : E1Box w W q rc) (he : Blk W e eZ 42) (el : w.heap.size < e) : EnBox w ((((((((((((((W.setCell ⟨e, 0, none⟩ x0).setCell ⟨e, 1, none⟩ x1).setCell ⟨e, 2, none⟩ x2).setCell ⟨e, 3, none⟩ x3).setCell ⟨e, 4, none⟩ x4).setCell ⟨e, 5, none⟩ x5).setCell ⟨e, 6, none⟩ x6).setCell ⟨e, 7, none⟩ x7).setCell ⟨e, 8, none⟩ x8).setCell ⟨e, 9, none⟩ x9).setCell ⟨e, 10, none⟩ x10).setCell ⟨e, 11, none⟩ x11).setCell ⟨e, 12, none⟩ x12).setCell ⟨e, 13, none⟩ x13) q e rc #[x0, x1, x2, x3, x4, x5, x6, x7, x8, x9, x10, x11, x12, x13] := by
  have G := (((((((((((((gs_set W e 0 x0).trans (gs_set _ e 1 x1)).trans (gs_set _ e 2 x2)).trans (gs_set _ e 3 x3)).trans (gs_set _ e 4 x4)).trans (gs_set _ e 5 x5)).trans (gs_set _ e 6 x6)).trans (gs_set _ e 7 x7)).trans (gs_set _ e 8 x8)).trans (gs_set _ e 9 x9)).trans (gs_set _ e 10 x10)).trans (gs_set _ e 11 x11)).trans (gs_set _ e 12 x12)).trans (gs_set _ e 13 x13)
  exact ⟨h.bel.grown G h.bel.size (fun k hk => by cases hk; exact Nat.le_of_lt el), h.res.grown G (by simp; omega), h.r.grown G (fun x => (h.r.ne he (by decide)) (by cases x; rfl)),
    he.set14, h.ql, el⟩
theorem EnBox.rcells (h : EnBox w W q e rc ec) : (W.cell? ⟨w.heap.size, 0, none⟩ = some (.int .i64 0) ∧ W.cell? ⟨w.heap.size, 1, none⟩ = some (.int .i64 0) ∧ W.cell? ⟨w.heap.size, 2, none⟩ = some (.int .i64 0) ∧ W.cell? ⟨w.heap.size, 3, none⟩ = some (.int .i64 0) ∧ W.cell? ⟨w.heap.size, 4, none⟩ = some (.string ⟨#[]⟩) ∧ W.cell? ⟨w.heap.size, 5, none⟩ = some (.int .i64 0) ∧ W.cell? ⟨w.heap.size, 6, none⟩ = some (.int .i64 0) ∧ W.cell? ⟨w.heap.size, 7, none⟩ = some (.string ⟨#[]⟩) ∧ W.cell? ⟨w.heap.size, 8, none⟩ = some (.int .i64 0) ∧ W.cell? ⟨w.heap.size, 9, none⟩ = some (.int .i64 0) ∧ W.cell? ⟨w.heap.size, 10, none⟩ = some (.int .i64 0) ∧ W.cell? ⟨w.heap.size, 11, none⟩ = some (.int .i64 0) ∧ W.cell? ⟨w.heap.size, 12, none⟩ = some (.slice none 0 0) ∧ W.cell? ⟨w.heap.size, 13, none⟩ = some (.slice none 0 0)) ∧ w.heap.size < W.heap.size := ⟨⟨h.res.cell 0, h.res.cell 1, h.res.cell 2, h.res.cell 3, h.res.cell 4, h.res.cell 5, h.res.cell 6, h.res.cell 7, h.res.cell 8, h.res.cell 9, h.res.cell 10, h.res.cell 11, h.res.cell 12, h.res.cell 13⟩, h.res.lt⟩
theorem EnBox.rfroz (h : EnBox w W q e rc ec) : W.frozen? ⟨w.heap.size, 0, none⟩ = false ∧ W.frozen? ⟨w.heap.size, 1, none⟩ = false ∧ W.frozen? ⟨w.heap.size, 2, none⟩ = false ∧ W.frozen? ⟨w.heap.size, 3, none⟩ = false ∧ W.frozen? ⟨w.heap.size, 4, none⟩ = false ∧ W.frozen? ⟨w.heap.size, 5, none⟩ = false ∧ W.frozen? ⟨w.heap.size, 6, none⟩ = false ∧ W.frozen? ⟨w.heap.size, 7, none⟩ = false ∧ W.frozen? ⟨w.heap.size, 8, none⟩ = false ∧ W.frozen? ⟨w.heap.size, 9, none⟩ = false ∧ W.frozen? ⟨w.heap.size, 10, none⟩ = false ∧ W.frozen? ⟨w.heap.size, 11, none⟩ = false ∧ W.frozen? ⟨w.heap.size, 12, none⟩ = false ∧ W.frozen? ⟨w.heap.size, 13, none⟩ = false := ⟨h.res.frozen 0, h.res.frozen 1, h.res.frozen 2, h.res.frozen 3, h.res.frozen 4, h.res.frozen 5, h.res.frozen 6, h.res.frozen 7, h.res.frozen 8, h.res.frozen 9, h.res.frozen 10, h.res.frozen 11, h.res.frozen 12, h.res.frozen 13⟩
theorem EnBox.cells {Y M D wd : Int} {sea : ByteArray} {wk kind : Int} {id : ByteArray} {rank fy fm fd : Int} {v1 v2 : Value} (h : EnBox w W q e rc (eC Y M D wd sea wk kind id rank fy fm fd v1 v2)) :
    (W.cell? ⟨e, 0, none⟩ = some (.int .i64 Y) ∧ W.cell? ⟨e, 1, none⟩ = some (.int .i64 M) ∧ W.cell? ⟨e, 2, none⟩ = some (.int .i64 D) ∧ W.cell? ⟨e, 3, none⟩ = some (.int .i64 wd) ∧ W.cell? ⟨e, 4, none⟩ = some (.string sea) ∧ W.cell? ⟨e, 5, none⟩ = some (.int .i64 wk) ∧ W.cell? ⟨e, 6, none⟩ = some (.int .i64 kind) ∧ W.cell? ⟨e, 7, none⟩ = some (.string id) ∧ W.cell? ⟨e, 8, none⟩ = some (.int .i64 rank) ∧ W.cell? ⟨e, 9, none⟩ = some (.int .i64 fy) ∧ W.cell? ⟨e, 10, none⟩ = some (.int .i64 fm) ∧ W.cell? ⟨e, 11, none⟩ = some (.int .i64 fd) ∧ W.cell? ⟨e, 12, none⟩ = some v1 ∧ W.cell? ⟨e, 13, none⟩ = some v2) ∧ e < W.heap.size :=
  ⟨⟨h.eb.cell 0, h.eb.cell 1, h.eb.cell 2, h.eb.cell 3, h.eb.cell 4, h.eb.cell 5, h.eb.cell 6, h.eb.cell 7, h.eb.cell 8, h.eb.cell 9, h.eb.cell 10, h.eb.cell 11, h.eb.cell 12, h.eb.cell 13⟩, h.eb.lt⟩
theorem EnBox.setR {x0 x1 x2 x3 x4 x5 x6 y0 y1 y2 y3 y4 y5 y6 : Value} (h : EnBox w W q e #[y0, y1, y2, y3, y4, y5, y6] ec) : EnBox w (((((((W.setCell ⟨q, 0, none⟩ x0).setCell ⟨q, 1, none⟩ x1).setCell ⟨q, 2, none⟩ x2).setCell ⟨q, 3, none⟩ x3).setCell ⟨q, 4, none⟩ x4).setCell ⟨q, 5, none⟩ x5).setCell ⟨q, 6, none⟩ x6) q e #[x0, x1, x2, x3, x4, x5, x6] ec := by
  have G := ((((((gs_set W q 0 x0).trans (gs_set _ q 1 x1)).trans (gs_set _ q 2 x2)).trans (gs_set _ q 3 x3)).trans (gs_set _ q 4 x4)).trans (gs_set _ q 5 x5)).trans (gs_set _ q 6 x6)
  have b0 := Blk.put (cs' := #[x0, y1, y2, y3, y4, y5, y6]) h.r 0 x0 rfl
  have b1 := Blk.put (cs' := #[x0, x1, y2, y3, y4, y5, y6]) b0 1 x1 rfl
  have b2 := Blk.put (cs' := #[x0, x1, x2, y3, y4, y5, y6]) b1 2 x2 rfl
  have b3 := Blk.put (cs' := #[x0, x1, x2, x3, y4, y5, y6]) b2 3 x3 rfl
  have b4 := Blk.put (cs' := #[x0, x1, x2, x3, x4, y5, y6]) b3 4 x4 rfl
  have b5 := Blk.put (cs' := #[x0, x1, x2, x3, x4, x5, y6]) b4 5 x5 rfl
  have b6 := Blk.put (cs' := #[x0, x1, x2, x3, x4, x5, x6]) b5 6 x6 rfl
  have hq := h.ql
  exact ⟨h.bel.grown G h.bel.size (fun k hk => by cases hk; omega), h.res.grown G (by simp; omega), b6, h.eb.grown G (fun x => (h.r.ne h.eb (by decide)) (by cases x; rfl)), h.ql, h.el⟩
theorem EnBox.keepR {x0 x1 x2 x3 x4 x5 x6 : Value} {b t sz : Nat} {u : Value} {rows : List (Array Value)} (h : EnBox w W q e rc ec) (ho : Own W b t sz u rows) (hn : t ≠ 117) : Own (((((((W.setCell ⟨q, 0, none⟩ x0).setCell ⟨q, 1, none⟩ x1).setCell ⟨q, 2, none⟩ x2).setCell ⟨q, 3, none⟩ x3).setCell ⟨q, 4, none⟩ x4).setCell ⟨q, 5, none⟩ x5).setCell ⟨q, 6, none⟩ x6) b t sz u rows :=
  ho.kept (((((((gs_set W q 0 x0).trans (gs_set _ q 1 x1)).trans (gs_set _ q 2 x2)).trans (gs_set _ q 3 x3)).trans (gs_set _ q 4 x4)).trans (gs_set _ q 5 x5)).trans (gs_set _ q 6 x6)) (.inr (ho.ne_blk h.r hn))
theorem EnBox.put (h : EnBox w W q e rc ec) (j : Nat) (v : Value) (ec2 : Array Value) (h2 : ec.setIfInBounds j v = ec2) : EnBox w (W.setCell ⟨e, j, none⟩ v) q e rc ec2 :=
  ⟨h.bel.setCell (Nat.le_of_lt h.el) _, h.res.grown (gs_set _ _ _ _) (by have := h.el; simp; omega), h.r.grown (gs_set _ _ _ _) (fun x => (h.r.ne h.eb (by decide)) (by cases x; rfl)), by rw [← h2]; exact h.eb.put j _ rfl, h.ql, h.el⟩
end
theorem en_none {C : Cat} {y : Int} {l : List Mv} {i : Nat} (h : (vTake l i).isSome = false) : vEnI C y l i = ⟨(vRz C y i).p.kind, (vRz C y i).p.id, (vRz C y i).p.rank, 0, 0, 0, (vRz C y i).cm, (vRz C y i).om⟩ := by
  unfold vEnI
  cases e : vTake l i with
  | none => rfl
  | some m => rw [e] at h; cases h
theorem en_some {C : Cat} {y : Int} {l : List Mv} {i : Nat} {m : Mv} (h : vTake l i = some m) : vEnI C y l i = ⟨3, (feaOf C m.feast).1, (feaOf C m.feast).2, vYear (vFirst y + m.src), mMon (vFirst y + m.src), mDay (vFirst y + m.src),
      if (vRz C y i).p.kind = 2 ∧ ¬ polOf C (vRz C y i).p.idx = 3 then (vRz C y i).p.idx :: (vRz C y i).cm else (vRz C y i).cm,
      if (vRz C y i).p.kind = 2 ∧ polOf C (vRz C y i).p.idx = 3 then (vRz C y i).p.idx :: (vRz C y i).om else (vRz C y i).om⟩ := by
  unfold vEnI; rw [h]
theorem rz_len {C : Cat} (hG : C.Good) (y : Int) (i : Nat) : (vRz C y i).cm.length ≤ 31 ∧ (vRz C y i).om.length ≤ 31 ∧ (vRz C y i).im.length ≤ 31 := by
  have h1 := (cands_len hG y (vFirst y + i)).2
  have h2 := (vSort_perm (vCands C y (vFirst y + i))).length_eq
  have key : ∀ p, (vPol C p ((vLine C y i).drop 1)).length ≤ 31 := fun p => by
    refine Nat.le_trans (vPol_len _ _ _) ?_
    rw [List.length_drop]; unfold vLine; omega
  exact ⟨key 2, key 3, key 1⟩
theorem line_ok {C : Cat} (hG : C.Good) (y : Int) (i : Nat) : CdOk C (vLine C y i) := fun x hx => cands_ok hG y _ x ((vSort_perm _).mem_iff.1 hx)
theorem rz_mem {C : Cat} (hG : C.Good) (y : Int) (i : Nat) : (vRz C y i).p ∈ vLine C y i := by
  have h1 := (cands_len hG y (vFirst y + i)).1
  have h2 := (vSort_perm (vCands C y (vFirst y + i))).length_eq
  exact List.mem_of_getElem? (F_at (l := vLine C y i) (i := 0) (by unfold vLine; omega))
theorem rz_ok {C : Cat} (hG : C.Good) (y : Int) (i : Nat) : (vRz C y i).p.kind = 2 → 0 ≤ (vRz C y i).p.idx ∧ (vRz C y i).p.idx < C.feas.length := line_ok hG y i _ (rz_mem hG y i)
theorem pol_ok {C : Cat} {l : List Cand} (h : CdOk C l) (p : Int) : ∀ j ∈ vPol C p (l.drop 1), 0 ≤ j ∧ j < C.feas.length := fun j hj => by
  obtain ⟨x, hx, hq⟩ := List.mem_filterMap.1 hj
  split at hq
  · rename_i hc
    cases hq
    exact h x (List.mem_of_mem_drop hx) hc.1
  · cases hq
theorem en_ok {C : Cat} (hG : C.Good) (y : Int) (l : List Mv) (i : Nat) : (∀ j ∈ (vEnI C y l i).com, 0 ≤ j ∧ j < C.feas.length) ∧ (∀ j ∈ (vEnI C y l i).omi, 0 ≤ j ∧ j < C.feas.length) ∧ (vEnI C y l i).com.length ≤ 32 ∧ (vEnI C y l i).omi.length ≤ 32 := by
  have h0 := line_ok hG y i
  have hc : ∀ j ∈ (vRz C y i).cm, 0 ≤ j ∧ j < C.feas.length := pol_ok h0 2
  have ho : ∀ j ∈ (vRz C y i).om, 0 ≤ j ∧ j < C.feas.length := pol_ok h0 3
  have hp := rz_ok hG y i
  obtain ⟨l1, l2, _⟩ := rz_len hG y i
  cases e : vTake l i with
  | none => rw [en_none (by rw [e]; rfl)]; exact ⟨hc, ho, by simp only; omega, by simp only; omega⟩
  | some m =>
    rw [en_some e]
    refine ⟨fun j hj => ?_, fun j hj => ?_, ?_, ?_⟩
    · simp only at hj
      split at hj
      · rename_i hk
        rcases List.mem_cons.1 hj with rfl | hj
        · exact hp hk.1
        · exact hc j hj
      · exact hc j hj
    · simp only at hj
      split at hj
      · rename_i hk
        rcases List.mem_cons.1 hj with rfl | hj
        · exact hp hk.1
        · exact ho j hj
      · exact ho j hj
    · show List.length (ite _ _ _) ≤ 32
      split <;> (try simp only [List.length_cons]) <;> omega
    · show List.length (ite _ _ _) ≤ 32
      split <;> (try simp only [List.length_cons]) <;> omega
set_option maxRecDepth 100000 in
set_option maxHeartbeats 2000000 in
theorem entry_c (C : Cat) (A1 : Option Addr) (n1 c1 : Nat) (A2 : Option Addr) (n2 c2 : Nat) (y oy : Int) (ents : Value) (g b0 N i : Nat) (v mv : Value) (vs : List (Value × Value × Value)) (l : List Mv) (w : World) (hb : Hid (Blk w g (bdCells C A1 n1 c1 A2 n2 c2 y (vFirst y) v mv oy ents) 80)) (ht : Hid (Tabs w)) (hI : Hid (CatIn w C A1 n1 c1 A2 n2 c2)) (hG : Hid C.Good) (y1 : 1583 ≤ y) (y2 : y ≤ 1000000000)
    (hD : Hid (DyRes w b0 C y N v vs)) (hM : Hid (Own w b0 153 3 mv (mvRows l))) (hl : Hid (l.length ≤ 100000 ∧ ∀ m ∈ l, 0 ≤ m.feast ∧ m.feast < C.feas.length ∧ 0 ≤ m.src ∧ m.src < N)) (hN : Hid (N = vDays y)) (hi : i < N) :
    Calls Tryz.prog 63 #[.pointer (some ⟨g, 0, none⟩), .int .i64 i] w fun e w' => ∃ u1 u2, e = .returned (.agg (eC (vYear (vFirst y + i)) (mMon (vFirst y + i)) (mDay (vFirst y + i)) ((vFirst y + i) % 7) (vSea C y (vFirst y + i)).id (vWeek C y (vFirst y + i)) (vEnI C y l i).kind (vEnI C y l i).prin (vEnI C y l i).rank (vEnI C y l i).fy (vEnI C y l i).fm (vEnI C y l i).fd u1 u2)) ∧
      (Own w' w.heap.size 9 1 u1 (strRows (vIds C (vEnI C y l i).com)) ∧ Own w' w.heap.size 9 1 u2 (strRows (vIds C (vEnI C y l i).omi))) ∧ Below w.heap.size w w' := by
  obtain ⟨EN, hEN⟩ : ∃ EN, vEnI C y l i = EN := ⟨_, rfl⟩
  rw [hEN]
  have HEN := Lib.hid hEN
  clear hEN
  have n400 : N ≤ 400 := by
    have h := hN.out
    have := lp01 (vLeap y)
    unfold vDays at h
    omega
  obtain ⟨f1, f2⟩ := vFirst_bd (y := y) (by omega) (by omega)
  have dn := vDays_next y
  rw [← hN.out] at dn
  obtain ⟨d, hd⟩ : ∃ d, vFirst y + (i : Int) = d := ⟨_, rfl⟩
  rw [hd]
  have d1 : vFirst y ≤ d := by omega
  have d2 : d < vFirst (y + 1) := by omega
  have d3 : d ≤ 365242600000 := by omega
  have HD0 := Lib.hid hd
  have DN := Lib.hid dn
  clear hd dn
  have HW : Hid (Below w.heap.size w (w.alloc (.cells eZ 42))) := Lib.hid ((Below.refl _ _).alloc (Nat.le_refl _) _)
  have HZ : Hid (Blk (w.alloc (.cells eZ 42)) w.heap.size eZ 42) := Lib.hid (Blk.new _ _ _)
  simp only [eZ] at HW HZ
  obtain ⟨u, hu⟩ : ∃ u, vs[i]? = some u := ⟨_, List.getElem?_eq_getElem (by have := hD.out.len; omega)⟩
  obtain ⟨a, m, c, a', m', c', a'', m'', c'', rfl⟩ := (hD.out.ins i u hu).form
  have H3 := Lib.hid (hD.out.ins i _ hu)
  obtain ⟨gd, cap, he, _, glt, _, hc⟩ := (hD.out.below HW.out).out.cell (rzRows_at hu)
  rw [rzRows_len, hD.out.len] at he
  subst he
  obtain ⟨r, hr⟩ : ∃ r, vRz C y i = r := ⟨_, rfl⟩
  rw [hr] at hc H3
  have HR := Lib.hid hr
  go_enter Tryz.func63, Tryz.ntmps63
  go_upto_region 1 with fail
  generalize (w.alloc (.cells #[.int .i64 0, .int .i64 0, .int .i64 0, .int .i64 0, .string ⟨#[]⟩, .int .i64 0, .int .i64 0, .string ⟨#[]⟩, .int .i64 0, .int .i64 0, .int .i64 0, .int .i64 0, .slice none 0 0, .slice none 0 0] 42)) = W0 at *
  have r0 : W0.cell? ⟨gd, i * 7, none⟩ = some (.int .i64 r.p.kind) := (hc 0 (by omega)).1
  have r1 : W0.cell? ⟨gd, i * 7 + 1, none⟩ = some (.int .i64 r.p.idx) := (hc 1 (by omega)).1
  have r2 : W0.cell? ⟨gd, i * 7 + 2, none⟩ = some (.int .i64 r.p.rank) := (hc 2 (by omega)).1
  have r3 : W0.cell? ⟨gd, i * 7 + 3, none⟩ = some (.string r.p.id) := (hc 3 (by omega)).1
  have r4 : W0.cell? ⟨gd, i * 7 + 4, none⟩ = some (.slice a m c) := (hc 4 (by omega)).1
  have r5 : W0.cell? ⟨gd, i * 7 + 5, none⟩ = some (.slice a' m' c') := (hc 5 (by omega)).1
  have r6 : W0.cell? ⟨gd, i * 7 + 6, none⟩ = some (.slice a'' m'' c'') := (hc 6 (by omega)).1
  have x4 : W0.cell? ⟨g, 4, none⟩ = some (.int .i64 (vFirst y)) := (hb.out.below HW.out).cell 4
  have x5 : W0.cell? ⟨g, 5, none⟩ = some (.slice (some ⟨gd, 0, none⟩) N cap) := (hb.out.below HW.out).cell 5
  have xl := (hb.out.below HW.out).lt
  have hi' : (i : Int) < N := by omega
  clear hu hr hc
  go_cut [5, 6] (fun v5 v6 wx => ∃ q, v5 = .pointer (some ⟨q, 0, none⟩) ∧ v6 = .int .i64 d ∧ Hid (E1Box w wx q (rzRow r (.slice a m c, .slice a' m' c', .slice a'' m'' c''))))
  case first =>
    go_region
    all_goals
      go_wp2_with fail
      go_meet
      exact ⟨_, rfl, by rw [HD0.out], Lib.hid ⟨(HW.out.alloc HW.out.size _).drew, (HZ.out.alloc _).drew, (Blk.new _ _ _).drew, HZ.out.lt⟩⟩
  case rest =>
    obtain ⟨q, rfl, rfl, HE⟩ := hcut
    clear r0 r1 r2 r3 r4 r5 r6 x4 x5 xl HW HZ
    simp only [rzRow] at HE
    go_upto_region 2 with fail
    go_cut [7] (fun v7 wx => ∃ e, v7 = .pointer (some ⟨e, 0, none⟩) ∧ Hid (EnBox w wx q e #[.int .i64 r.p.kind, .int .i64 r.p.idx, .int .i64 r.p.rank, .string r.p.id, .slice a m c, .slice a' m' c', .slice a'' m'' c''] (eC 0 0 0 (d % 7) ⟨#[]⟩ 0 r.p.kind r.p.id r.p.rank 0 0 0 (.slice none 0 0) (.slice none 0 0))))
    case first =>
      --[
      have hB : Below wc.heap.size wc wc.drew := (Below.refl _ _).drew
      have hA := ((Below.refl wc.heap.size wc).alloc (Nat.le_refl _) (.cells #[.int .i64 0, .int .i64 0, .int .i64 0, .int .i64 0, .string ⟨#[]⟩, .int .i64 0, .int .i64 0, .string ⟨#[]⟩, .int .i64 0, .int .i64 0, .int .i64 0, .int .i64 0, .slice none 0 0, .slice none 0 0] 42)).drew
      have HQA := (Blk.new wc #[.int .i64 0, .int .i64 0, .int .i64 0, .int .i64 0, .string ⟨#[]⟩, .int .i64 0, .int .i64 0, .string ⟨#[]⟩, .int .i64 0, .int .i64 0, .int .i64 0, .int .i64 0, .slice none 0 0, .slice none 0 0] 42).drew
      have HC : ∀ V, Below wc.heap.size wc V → V.cell? ⟨q, 0, none⟩ = some (.int .i64 r.p.kind) ∧ V.cell? ⟨q, 2, none⟩ = some (.int .i64 r.p.rank) ∧ V.cell? ⟨q, 3, none⟩ = some (.string r.p.id) := fun V h => ⟨(HE.out.r.below h).cell 0, (HE.out.r.below h).cell 2, (HE.out.r.below h).cell 3⟩
      obtain ⟨p0, p2, p3⟩ := HC _ (Below.refl _ _)
      have ql := HE.out.r.lt
      go_region_held3 (fun w' => w'.cell? ⟨q, 0, none⟩ = some (.int .i64 r.p.kind) ∧ w'.cell? ⟨q, 2, none⟩ = some (.int .i64 r.p.rank) ∧ w'.cell? ⟨q, 3, none⟩ = some (.string r.p.id))
        (first
          | (with_reducible exact HC _ hB)
          | (with_reducible exact HC _ hA)
          | (with_reducible exact HC _ (hB.alloc hB.size _))
          | (simp only [cell_set_ne hqe]; with_reducible exact HC _ hB))
        (first
          | (go_at_call 96; with_reducible refine (of_c d _ (by omega) (by omega)).mono ?_; rintro e w3 ⟨rfl, hb3⟩; (first | (with_reducible replace hB := hB.trans (hb3.mono hB.size)) | (have hq := HQA.below hb3; have hqe := Nat.ne_of_lt ql; with_reducible replace hB := hA.trans (hb3.mono hA.size); have q0 := hq.cell 0; have q1 := hq.cell 1; have q2 := hq.cell 2; have q3 := hq.cell 3; have q4 := hq.cell 4; have q5 := hq.cell 5; have q6 := hq.cell 6; have q7 := hq.cell 7; have q8 := hq.cell 8; have q9 := hq.cell 9; have q10 := hq.cell 10; have q11 := hq.cell 11; have q12 := hq.cell 12; have q13 := hq.cell 13; have f0 := hq.frozen 0; have f1 := hq.frozen 1; have f2 := hq.frozen 2; have f3 := hq.frozen 3; have f4 := hq.frozen 4; have f5 := hq.frozen 5; have f6 := hq.frozen 6; have f7 := hq.frozen 7; have f8 := hq.frozen 8; have f9 := hq.frozen 9; have f10 := hq.frozen 10; have f11 := hq.frozen 11; have f12 := hq.frozen 12; have f13 := hq.frozen 13))))
      all_goals (go_wp2_with fail)
      all_goals go_meet
      · exact ⟨_, rfl, Lib.hid (EnBox.new (HE.out.below hB) _)⟩
      · exact ⟨_, rfl, Lib.hid (EnBox.set14 (HE.out.below hB) hq (Nat.lt_of_lt_of_le HE.out.ql (Nat.le_of_lt ql)))⟩
      --]
    case rest =>
      obtain ⟨e, rfl, HF⟩ := hcut
      clear HE
      have d0 : vDayOk d = true := vDayOk_iff.2 ⟨by omega, by have := (vFirst_bd (y := y + 1) (by omega) (by omega)).2; omega⟩
      go_upto_region 4 with (first | (go_at_call 97; with_reducible refine (from_c d _ d0).mono ?_; rintro ee w4 ⟨rfl, hb4⟩; have HF4 := Lib.hid (HF.out.below hb4); clear hb4; obtain ⟨⟨e0, e1, e2, e3, e4, e5, e6, e7, e8, e9, e10, e11, e12, e13⟩, elt⟩ := HF4.out.cells; have f0 := HF4.out.eb.frozen 0; have f1 := HF4.out.eb.frozen 1; have f2 := HF4.out.eb.frozen 2))
      have HF5 := Lib.hid (((HF4.out.put 0 (.int .i64 (vYear d)) _ rfl).put 1 (.int .i64 (mMon d)) _ rfl).put 2 (.int .i64 (mDay d)) (eC (vYear d) (mMon d) (mDay d) (d % 7) ⟨#[]⟩ 0 r.p.kind r.p.id r.p.rank 0 0 0 (.slice none 0 0) (.slice none 0 0)) rfl)
      clear HF HF4 e0 e1 e2 e3 e4 e5 e6 e7 e8 e9 e10 e11 e12 e13 elt f0 f1 f2
      generalize (((w4.setCell ⟨e, 0, none⟩ (.int .i64 (vYear d))).setCell ⟨e, 1, none⟩ (.int .i64 (mMon d))).setCell ⟨e, 2, none⟩ (.int .i64 (mDay d))) = W5 at *
      have D1 : Below W5.heap.size W5 W5.drew := (Below.refl _ _).drew
      have bw : ∀ x : Of (fun W : World => Below W5.heap.size W5 W), Below w.heap.size w x.val := fun x => below_then HF5.out.bel HF5.out.bel.size x.ok
      have g0 : ∀ x : Of (fun W : World => Below W5.heap.size W5 W), x.val.cell? ⟨g, 0, none⟩ = some (.int .i64 C.free) := fun x => (hb.out.below (bw x)).cell 0
      have g1 : ∀ x : Of (fun W : World => Below W5.heap.size W5 W), x.val.cell? ⟨g, 1, none⟩ = some (.slice A1 n1 c1) := fun x => (hb.out.below (bw x)).cell 1
      have g2 : ∀ x : Of (fun W : World => Below W5.heap.size W5 W), x.val.cell? ⟨g, 2, none⟩ = some (.slice A2 n2 c2) := fun x => (hb.out.below (bw x)).cell 2
      have g3 : ∀ x : Of (fun W : World => Below W5.heap.size W5 W), x.val.cell? ⟨g, 3, none⟩ = some (.int .i64 y) := fun x => (hb.out.below (bw x)).cell 3
      refine wp_region_cls (C := fun W : World => Below W5.heap.size W5 W) (by kernel_rfl) (by kernel_rfl) D1 ?_
      haveI : Nonempty (Of (fun W : World => Below W5.heap.size W5 W)) := ⟨⟨_, D1⟩⟩
      clear D1
      repeat go_big_quiet_step (first | (go_at_call 98; refine (of_season_c C _ _ _ _ _ _ y d _ (Lib.hid (ht.out.below (bw _))) (Lib.hid (hI.out.below (bw _))) hG y1 y2 d1 d2).mono ?_; rintro ee w6 ⟨rfl, hw⟩; exact ⟨rfl, ⟨⟨w6, chain (Of.ok _) hw⟩, rfl⟩⟩))
      refine wpQuiet_nil ?_
      rintro _ ⟨w5, rfl⟩
      have HF6 := Lib.hid (HF5.out.below w5.ok)
      clear g0 g1 g2 g3 HF5
      generalize w5.val = W6 at *
      clear bw
      have HX : Hid ((C.seas.map Sea.cells)[(vFind C y d).2.toNat]? = some (vSea C y d).cells) := Lib.hid (by rw [List.getElem?_map, (find_idx (y := y) (d := d) hG.out).2.2]; rfl)
      have i1 := (find_idx (y := y) (d := d) hG.out).1
      have i4 : (vFind C y d).2 < (n1 : Int) := by rw [hI.out.e1]; exact (find_idx (y := y) (d := d) hG.out).2.1
      have x1 : W6.cell? ⟨g, 1, none⟩ = some (.slice A1 n1 c1) := (hb.out.below HF6.out.bel).cell 1
      have xl := (hb.out.below HF6.out.bel).lt
      obtain ⟨ad, ha, hr⟩ := (hI.out.sea.below HF6.out.bel).at_ HX.out
      obtain ⟨⟨a0, a1, a2, a3, a4, a5, a6, a7, a8⟩, plt⟩ := RowIs.nine2 hr
      clear hr
      subst ha
      obtain ⟨⟨e0, e1, e2, e3, e4, e5, e6, e7, e8, e9, e10, e11, e12, e13⟩, elt⟩ := HF6.out.cells
      have f4 := HF6.out.eb.frozen 4
      go_upto_region 6 with fail
      have HF7 := Lib.hid (HF6.out.put 4 (.string (vSea C y d).id) (eC (vYear d) (mMon d) (mDay d) (d % 7) (vSea C y d).id 0 r.p.kind r.p.id r.p.rank 0 0 0 (.slice none 0 0) (.slice none 0 0)) rfl)
      clear HF6 e0 e1 e2 e3 e4 e5 e6 e7 e8 e9 e10 e11 e12 e13 elt f4 a0 a1 a2 a3 a4 a5 a6 a7 a8 plt x1 xl HX
      generalize W6.setCell ⟨e, 4, none⟩ (.string (vSea C y d).id) = W7 at *
      have HC : ∀ V, Below w.heap.size w V → V.cell? ⟨g, 0, none⟩ = some (.int .i64 C.free) ∧ V.cell? ⟨g, 1, none⟩ = some (.slice (some ad) n1 c1) ∧ V.cell? ⟨g, 2, none⟩ = some (.slice A2 n2 c2) ∧ V.cell? ⟨g, 3, none⟩ = some (.int .i64 y) := fun V h => ⟨(hb.out.below h).cell 0, (hb.out.below h).cell 1, (hb.out.below h).cell 2, (hb.out.below h).cell 3⟩
      have hB : Below w.heap.size w W7.drew := HF7.out.bel.drew
      have hel : w.heap.size ≤ e := Nat.le_of_lt HF7.out.el
      have HD7 := Lib.hid (HF7.out.below (Below.refl _ _).drew)
      obtain ⟨x0, x1, x2, x3⟩ := HC _ HF7.out.bel
      go_cut [] (fun wx => Hid (EnBox w wx q e #[.int .i64 r.p.kind, .int .i64 r.p.idx, .int .i64 r.p.rank, .string r.p.id, .slice a m c, .slice a' m' c', .slice a'' m'' c''] (eC (vYear d) (mMon d) (mDay d) (d % 7) (vSea C y d).id (vWeek C y d) r.p.kind r.p.id r.p.rank 0 0 0 (.slice none 0 0) (.slice none 0 0))))
      case first =>
        --[
        go_region_held3 (fun w' => w'.cell? ⟨g, 0, none⟩ = some (.int .i64 C.free) ∧ w'.cell? ⟨g, 1, none⟩ = some (.slice (some ad) n1 c1) ∧ w'.cell? ⟨g, 2, none⟩ = some (.slice A2 n2 c2) ∧ w'.cell? ⟨g, 3, none⟩ = some (.int .i64 y))
          (first
            | (with_reducible exact HC _ hB)
            | (with_reducible exact HC _ (hB.setCell hel _)))
          (first
            | (go_at_call 99; with_reducible refine (week_c C _ _ _ _ _ _ y d _ (Lib.hid (ht.out.below hB)) (Lib.hid (hI.out.below hB)) hG y1 y2 d1 d2).mono ?_; rintro ee w8 ⟨rfl, hb8⟩; have HF8 := Lib.hid (HD7.out.below hb8); replace hB := HF8.out.bel; obtain ⟨⟨e0, e1, e2, e3, e4, e5, e6, e7, e8, e9, e10, e11, e12, e13⟩, elt⟩ := HF8.out.cells; have f5 := HF8.out.eb.frozen 5))
        all_goals (go_wp2_with fail)
        all_goals go_meet
        exact Lib.hid (HF8.out.put 5 _ _ rfl)
        --]
      case rest =>
        clear HF7 HC hB HD7 x0 x1 x2 x3
        have HF9 := hcut
        clear hcut
        obtain ⟨mm, hmm⟩ : ∃ mm, (vTake l i).getD mv0 = mm := ⟨_, rfl⟩
        obtain ⟨bb, hbb⟩ : ∃ bb, (vTake l i).isSome = bb := ⟨_, rfl⟩
        have TC : ∀ W, Below w.heap.size w W → Calls Tryz.prog 100 #[mv, .int .i64 i] W fun e w' => e = .returned (.tuple #[.agg #[.int .i64 mm.feast, .int .i64 mm.src, .int .i64 mm.dst], .bool bb]) ∧ Below W.heap.size W w' := fun W h => by
          have h0 := taken_c l mv i b0 W (Lib.hid (hM.out.below h)) (by have := hl.out.1; omega)
          rw [hmm, hbb] at h0
          exact h0
        have HMM := Lib.hid hmm
        have HBB := Lib.hid hbb
        clear hmm hbb
        have x6 : wc.cell? ⟨g, 6, none⟩ = some mv := (hb.out.below HF9.out.bel).cell 6
        have xl := (hb.out.below HF9.out.bel).lt
        go_upto_if 90 with (first | (go_at_call 100; with_reducible refine (TC _ HF9.out.bel).mono ?_; rintro ee w9 ⟨rfl, hb9⟩; have HF10 := Lib.hid (HF9.out.below hb9); clear hb9))
        have HA := Lib.hid (HF10.out.below ((Below.refl _ _).alloc (Nat.le_refl _) (.cells #[.int .i64 mm.feast, .int .i64 mm.src, .int .i64 mm.dst] 153)))
        have PM := Lib.hid (Blk.new w9 #[.int .i64 mm.feast, .int .i64 mm.src, .int .i64 mm.dst] 153)
        clear HF9 HF10 x6 xl TC
        generalize w9.alloc (.cells #[.int .i64 mm.feast, .int .i64 mm.src, .int .i64 mm.dst] 153) = WA at *
        generalize w9.heap.size = mq at *
        go_cut [] (fun wx => ∃ (k0 k1 k2 : Int) (s3 : ByteArray) (u1 u2 u3 : Value), Hid (EnBox w wx q e #[.int .i64 k0, .int .i64 k1, .int .i64 k2, .string s3, u1, u2, u3] (eC (vYear d) (mMon d) (mDay d) (d % 7) (vSea C y d).id (vWeek C y d) EN.kind EN.prin EN.rank EN.fy EN.fm EN.fd (.slice none 0 0) (.slice none 0 0))) ∧ Hid (Own wx 0 3 1 u1 (intRows EN.com)) ∧ Hid (Own wx 0 3 1 u2 (intRows EN.omi)))
        case first =>
          cases bb with
          | false =>
            go_wp2_with fail
            go_meet
            have hE : EN = ⟨r.p.kind, r.p.id, r.p.rank, 0, 0, 0, r.cm, r.om⟩ := by rw [← HEN.out, ← HR.out]; exact en_none HBB.out
            subst hE
            exact ⟨_, _, _, _, _, _, _, HA, Lib.hid ((H3.out.oc.below HA.out.bel).less (Nat.zero_le _)), Lib.hid ((H3.out.oo.below HA.out.bel).less (Nat.zero_le _))⟩
          | true =>
            obtain ⟨vt, hvt⟩ : ∃ mt, vTake l i = some mt := Option.isSome_iff_exists.1 HBB.out
            have hm := HMM.out
            rw [hvt] at hm
            have hm2 : vt = mm := hm
            subst hm2
            obtain ⟨m1, m2, m3, m4⟩ := hl.out.2 vt (List.mem_of_find?_eq_some hvt)
            have HVT := Lib.hid hvt
            clear hm hvt HMM HBB
            obtain ⟨f, hf⟩ : ∃ f, C.feas[vt.feast.toNat]? = some f := ⟨_, List.getElem?_eq_getElem (by omega)⟩
            have HFE : Hid (feaOf C vt.feast = (f.id, f.rank)) := Lib.hid (by unfold feaOf; rw [hf])
            have HFX : Hid ((C.feas.map Fea.cells)[vt.feast.toNat]? = some f.cells) := Lib.hid (by rw [List.getElem?_map, hf]; rfl)
            have hn2 : vt.feast < (n2 : Int) := by rw [hI.out.e2]; exact m2
            clear hf
            go_upto_region 9 with fail
            go_cut [12] (fun v12 wx => ∃ fq, v12 = .pointer (some ⟨fq, 0, none⟩) ∧ Hid (EnBox w wx q e #[.int .i64 r.p.kind, .int .i64 r.p.idx, .int .i64 r.p.rank, .string r.p.id, .slice a m c, .slice a' m' c', .slice a'' m'' c''] (eC (vYear d) (mMon d) (mDay d) (d % 7) (vSea C y d).id (vWeek C y d) r.p.kind r.p.id r.p.rank 0 0 0 (.slice none 0 0) (.slice none 0 0))) ∧ Hid (Blk wx mq #[.int .i64 vt.feast, .int .i64 vt.src, .int .i64 vt.dst] 153) ∧ Hid (Blk wx fq f.cells 63))
            case first =>
              --[
              obtain ⟨ad2, ha, hr⟩ := (hI.out.fea.below HA.out.bel).at_ HFX.out
              obtain ⟨⟨a0, a1, a2, a3, a4, a5, a6, a7, a8⟩, plt⟩ := RowIs.nine2 hr
              clear hr
              subst ha
              have x2 : WA.cell? ⟨g, 2, none⟩ = some (.slice (some ad2) n2 c2) := (hb.out.below HA.out.bel).cell 2
              have xl := (hb.out.below HA.out.bel).lt
              have z0 : WA.cell? ⟨mq, 0, none⟩ = some (.int .i64 vt.feast) := PM.out.cell 0
              have zl := PM.out.lt
              go_region
              all_goals
                go_wp2_with fail
                go_meet
                exact ⟨_, rfl, Lib.hid ((HA.out.below ((Below.refl _ _).alloc (Nat.le_refl _) _)).below (Below.refl _ _).drew), Lib.hid (PM.out.alloc _).drew, Lib.hid (Blk.new _ _ _).drew⟩
              --]
            case rest =>
              obtain ⟨fq, rfl, HG, PG, FG⟩ := hcut
              clear HA PM
              go_upto_region 10 with fail
              go_cut [] (fun wx => Hid (EnBox w wx q e #[.int .i64 r.p.kind, .int .i64 r.p.idx, .int .i64 r.p.rank, .string r.p.id, .slice a m c, .slice a' m' c', .slice a'' m'' c''] (eC (vYear d) (mMon d) (mDay d) (d % 7) (vSea C y d).id (vWeek C y d) 3 f.id f.rank 0 0 0 (.slice none 0 0) (.slice none 0 0))) ∧ Hid (Blk wx mq #[.int .i64 vt.feast, .int .i64 vt.src, .int .i64 vt.dst] 153))
              case first =>
                --[
                have z0 : wc.cell? ⟨fq, 0, none⟩ = some (.string f.id) := FG.out.cell 0
                have z1 : wc.cell? ⟨fq, 1, none⟩ = some (.int .i64 f.rank) := FG.out.cell 1
                obtain ⟨⟨e0, e1, e2, e3, e4, e5, e6, e7, e8, e9, e10, e11, e12, e13⟩, elt⟩ := HG.out.cells
                have f6 := HG.out.eb.frozen 6
                have f7 := HG.out.eb.frozen 7
                have f8 := HG.out.eb.frozen 8
                have ne1 := (FG.out.ne HG.out.eb (by decide))
                go_region
                all_goals
                  go_wp2_with fail
                  go_meet
                  have hne : mq ≠ e := PG.out.ne HG.out.eb (by decide)
                  exact ⟨Lib.hid ((((HG.out.put 6 (.int .i64 3) _ rfl).put 7 (.string f.id) _ rfl).put 8 (.int .i64 f.rank) (eC (vYear d) (mMon d) (mDay d) (d % 7) (vSea C y d).id (vWeek C y d) 3 f.id f.rank 0 0 0 (.slice none 0 0) (.slice none 0 0)) rfl).below (Below.refl _ _).drew), Lib.hid (((PG.out.far hne _).far hne _).far hne _).drew⟩
                --]
              case rest =>
                clear HG PG FG
                obtain ⟨HG, PG⟩ := hcut
                have d5 : vDayOk (vFirst y + vt.src) = true := vDayOk_iff.2 ⟨by omega, by have := (vFirst_bd (y := y + 1) (by omega) (by omega)).2; have := DN.out; omega⟩
                go_upto_region 11 with fail
                go_cut [] (fun wx => Hid (EnBox w wx q e #[.int .i64 r.p.kind, .int .i64 r.p.idx, .int .i64 r.p.rank, .string r.p.id, .slice a m c, .slice a' m' c', .slice a'' m'' c''] (eC (vYear d) (mMon d) (mDay d) (d % 7) (vSea C y d).id (vWeek C y d) 3 f.id f.rank (vYear (vFirst y + vt.src)) (mMon (vFirst y + vt.src)) (mDay (vFirst y + vt.src)) (.slice none 0 0) (.slice none 0 0))))
                case first =>
                  have HC : ∀ V, Below wc.heap.size wc V → V.cell? ⟨g, 4, none⟩ = some (.int .i64 (vFirst y)) ∧ V.cell? ⟨mq, 1, none⟩ = some (.int .i64 vt.src) := fun V h => ⟨(hb.out.below (below_then HG.out.bel HG.out.bel.size h)).cell 4, (PG.out.below h).cell 1⟩
                  have hB : Below wc.heap.size wc wc.drew := (Below.refl _ _).drew
                  have hne : mq ≠ e := PG.out.ne HG.out.eb (by decide)
                  have hge : g ≠ e := Nat.ne_of_lt (Nat.lt_trans hb.out.lt HG.out.el)
                  obtain ⟨x4, z1⟩ := HC _ (Below.refl _ _)
                  have WR : Hid (IntKind.i64.wrap (vFirst y + vt.src) = vFirst y + vt.src) := Lib.hid (IntWalk.i64_in _ (by omega))
                  have zl := PG.out.lt
                  have xl := (hb.out.below HG.out.bel).lt
                  go_region_held3 (fun w' => w'.cell? ⟨g, 4, none⟩ = some (.int .i64 (vFirst y)) ∧ w'.cell? ⟨mq, 1, none⟩ = some (.int .i64 vt.src))
                    (first
                      | (with_reducible exact HC _ hB)
                      | (simp only [cell_set_ne hne, cell_set_ne hge]; with_reducible exact HC _ hB))
                    (first
                      | (go_at_call 97; rw [WR.out]; with_reducible refine (from_c (vFirst y + vt.src) _ d5).mono ?_; rintro ee w4 ⟨rfl, hb4⟩; have HG4 := Lib.hid ((HG.out.below (Below.refl _ _).drew).below hb4); replace hB := hB.trans (hb4.mono hB.size); obtain ⟨⟨e0, e1, e2, e3, e4, e5, e6, e7, e8, e9, e10, e11, e12, e13⟩, elt⟩ := HG4.out.cells; have f9 := HG4.out.eb.frozen 9; have f10 := HG4.out.eb.frozen 10; have f11 := HG4.out.eb.frozen 11))
                  all_goals
                    go_wp2_with fail
                    go_meet
                    exact Lib.hid (((HG4.out.put 9 (.int .i64 (vYear (vFirst y + vt.src))) _ rfl).put 10 (.int .i64 (mMon (vFirst y + vt.src))) _ rfl).put 11 (.int .i64 (mDay (vFirst y + vt.src))) (eC (vYear d) (mMon d) (mDay d) (d % 7) (vSea C y d).id (vWeek C y d) 3 f.id f.rank (vYear (vFirst y + vt.src)) (mMon (vFirst y + vt.src)) (mDay (vFirst y + vt.src)) (.slice none 0 0) (.slice none 0 0)) rfl)
                case rest =>
                  clear HG PG d5
                  have HG := hcut
                  clear hcut
                  go_upto_region 12 with fail
                  have D1 : Below wc.heap.size wc wc.drew := (Below.refl _ _).drew
                  have bw : ∀ x : Of (fun W : World => Below wc.heap.size wc W), Below w.heap.size w x.val := fun x => below_then HG.out.bel HG.out.bel.size x.ok
                  have g0 : ∀ x : Of (fun W : World => Below wc.heap.size wc W), x.val.cell? ⟨g, 0, none⟩ = some (.int .i64 C.free) := fun x => (hb.out.below (bw x)).cell 0
                  have g1 : ∀ x : Of (fun W : World => Below wc.heap.size wc W), x.val.cell? ⟨g, 1, none⟩ = some (.slice (some ad) n1 c1) := fun x => (hb.out.below (bw x)).cell 1
                  have g2 : ∀ x : Of (fun W : World => Below wc.heap.size wc W), x.val.cell? ⟨g, 2, none⟩ = some (.slice A2 n2 c2) := fun x => (hb.out.below (bw x)).cell 2
                  have p0 : ∀ x : Of (fun W : World => Below wc.heap.size wc W), x.val.cell? ⟨q, 0, none⟩ = some (.int .i64 r.p.kind) := fun x => (HG.out.r.below x.ok).cell 0
                  have p1 : ∀ x : Of (fun W : World => Below wc.heap.size wc W), x.val.cell? ⟨q, 1, none⟩ = some (.int .i64 r.p.idx) := fun x => (HG.out.r.below x.ok).cell 1
                  have p2 : ∀ x : Of (fun W : World => Below wc.heap.size wc W), x.val.cell? ⟨q, 2, none⟩ = some (.int .i64 r.p.rank) := fun x => (HG.out.r.below x.ok).cell 2
                  have p3 : ∀ x : Of (fun W : World => Below wc.heap.size wc W), x.val.cell? ⟨q, 3, none⟩ = some (.string r.p.id) := fun x => (HG.out.r.below x.ok).cell 3
                  have p4 : ∀ x : Of (fun W : World => Below wc.heap.size wc W), x.val.cell? ⟨q, 4, none⟩ = some (.slice a m c) := fun x => (HG.out.r.below x.ok).cell 4
                  have p5 : ∀ x : Of (fun W : World => Below wc.heap.size wc W), x.val.cell? ⟨q, 5, none⟩ = some (.slice a' m' c') := fun x => (HG.out.r.below x.ok).cell 5
                  have p6 : ∀ x : Of (fun W : World => Below wc.heap.size wc W), x.val.cell? ⟨q, 6, none⟩ = some (.slice a'' m'' c'') := fun x => (HG.out.r.below x.ok).cell 6
                  refine wp_region_cls_tail (C := fun W : World => Below wc.heap.size wc W) 5 (by kernel_rfl) (by kernel_rfl) D1 ?_
                  haveI : Nonempty (Of (fun W : World => Below wc.heap.size wc W)) := ⟨⟨_, D1⟩⟩
                  clear D1
                  simp only [List.take_succ_cons, List.take_zero, List.drop_succ_cons, List.drop_zero]
                  repeat go_big_quiet_step (fail)
                  refine wpQuiet_nil ?_
                  rintro _ ⟨w7, rfl⟩
                  have HG7 := Lib.hid (HG.out.below w7.ok)
                  clear g0 g1 g2 p0 p1 p2 p3 p4 p5 p6 bw HG
                  generalize w7.val = W7 at *
                  have lens := rz_len hG.out y i
                  rw [HR.out] at lens
                  have L1 : Hid (r.cm.length ≤ 1000) := Lib.hid (by omega)
                  have L2 : Hid (r.om.length ≤ 1000) := Lib.hid (by omega)
                  have L3 : Hid (r.im.length ≤ 1000) := Lib.hid (by omega)
                  have OK1 := rz_ok hG.out y i
                  rw [HR.out] at OK1
                  have HP := Lib.hid OK1
                  clear lens OK1
                  go_wp2_with (first | (go_at_call 101; with_reducible refine (displace_c C _ _ _ _ _ _ r.p (.slice a m c) (.slice a' m' c') (.slice a'' m'' c'') b0 r.cm r.om r.im _ (Lib.hid (hI.out.below HG7.out.bel)) hG (Lib.hid (H3.out.oc.below HG7.out.bel)) (Lib.hid (H3.out.oo.below HG7.out.bel)) (Lib.hid (H3.out.oi.below HG7.out.bel)) L1 L2 L3 HP).mono ?_; rintro ee w8 ⟨u1, u2, u3, rfl, ⟨o1, o2, o3⟩, hb8⟩; obtain ⟨b1, k1, j1, rfl⟩ := o1.named; obtain ⟨b2, k2, j2, rfl⟩ := o2.named; obtain ⟨b3, k3, j3, rfl⟩ := o3.named; have O1 := Lib.hid o1; have O2 := Lib.hid o2; clear o1 o2 o3; have HG8 := Lib.hid (HG7.out.below hb8); clear hb8; have q0 := HG8.out.r.cell 0; have q1 := HG8.out.r.cell 1; have q2 := HG8.out.r.cell 2; have q3 := HG8.out.r.cell 3; have q4 := HG8.out.r.cell 4; have q5 := HG8.out.r.cell 5; have q6 := HG8.out.r.cell 6; have f0 := HG8.out.r.frozen 0; have f1 := HG8.out.r.frozen 1; have f2 := HG8.out.r.frozen 2; have f3 := HG8.out.r.frozen 3; have f4 := HG8.out.r.frozen 4; have f5 := HG8.out.r.frozen 5; have f6 := HG8.out.r.frozen 6))
                  go_meet
                  have hE : EN = ⟨3, f.id, f.rank, vYear (vFirst y + vt.src), mMon (vFirst y + vt.src), mDay (vFirst y + vt.src), if r.p.kind = 2 ∧ ¬ polOf C r.p.idx = 3 then r.p.idx :: r.cm else r.cm, if r.p.kind = 2 ∧ polOf C r.p.idx = 3 then r.p.idx :: r.om else r.om⟩ := by
                    rw [← HEN.out, en_some HVT.out, HFE.out, HR.out]
                  subst hE
                  exact ⟨_, _, _, _, _, _, _, Lib.hid HG8.out.setR, Lib.hid ((HG8.out.keepR O1.out (by decide)).less (Nat.zero_le _)), Lib.hid ((HG8.out.keepR O2.out (by decide)).less (Nat.zero_le _))⟩
        case rest =>
          clear HA PM HMM HBB
          obtain ⟨k0, k1, k2, s3, u1, u2, u3, HG, O1, O2⟩ := hcut
          have HC : ∀ V, Below w.heap.size w V → Blk V g (bdCells C (some ad) n1 c1 A2 n2 c2 y (vFirst y) (.slice (some ⟨gd, 0, none⟩) N cap) mv oy ents) 80 := fun V h => hb.out.below h
          have EO := en_ok hG.out y l i
          rw [HEN.out] at EO
          have K1 : Hid (∀ j ∈ EN.com, 0 ≤ j ∧ j < C.feas.length) := Lib.hid EO.1
          have K2 : Hid (∀ j ∈ EN.omi, 0 ≤ j ∧ j < C.feas.length) := Lib.hid EO.2.1
          have K3 : Hid (EN.com.length ≤ 1000) := Lib.hid (by have := EO.2.2.1; omega)
          have K4 : Hid (EN.omi.length ≤ 1000) := Lib.hid (by have := EO.2.2.2; omega)
          clear EO
          go_upto_region 13 with fail
          have HS : ∀ V, Below wc.heap.size wc V → V.cell? ⟨q, 4, none⟩ = some u1 ∧ V.cell? ⟨q, 5, none⟩ = some u2 := fun V h => ⟨(HG.out.r.below h).cell 4, (HG.out.r.below h).cell 5⟩
          have hB : Below wc.heap.size wc wc.drew := (Below.refl _ _).drew
          have HB2 : ∀ V, Below wc.heap.size wc V → Below w.heap.size w V := fun V h => below_then HG.out.bel HG.out.bel.size h
          have hqe : q ≠ e := HG.out.r.ne HG.out.eb (by decide)
          obtain ⟨z4, z5⟩ := HS _ (Below.refl _ _)
          have zl := HG.out.r.lt
          have HL1 : Hid (w.heap.size + 1 ≤ wc.heap.size) := Lib.hid (Nat.lt_of_lt_of_le HG.out.ql (Nat.le_of_lt zl))
          go_cut [] (fun wx => ∃ v1 v2, Hid (EnBox w wx q e #[.int .i64 k0, .int .i64 k1, .int .i64 k2, .string s3, u1, u2, u3] (eC (vYear d) (mMon d) (mDay d) (d % 7) (vSea C y d).id (vWeek C y d) EN.kind EN.prin EN.rank EN.fy EN.fm EN.fd v1 v2)) ∧ Hid (Own wx (w.heap.size + 1) 9 1 v1 (strRows (vIds C EN.com))) ∧ Hid (Own wx (w.heap.size + 1) 9 1 v2 (strRows (vIds C EN.omi))))
          case first =>
            go_region_held3 (fun w' => w'.cell? ⟨q, 4, none⟩ = some u1 ∧ w'.cell? ⟨q, 5, none⟩ = some u2)
              (first
                | (with_reducible exact HS _ hB)
                | (simp only [cell_set_ne hqe]; with_reducible exact HS _ hB))
              (first
                | (go_at_call 102; with_reducible refine (ids_c C _ _ _ _ _ _ y _ _ _ _ _ g u1 0 EN.com _ (Lib.hid (HC _ (HB2 _ hB))) (Lib.hid (hI.out.below (HB2 _ hB))) (Lib.hid (O1.out.below hB)) K1 K3).mono ?_; rintro ee w4 ⟨v1, rfl, o1, hb4⟩; obtain ⟨b1, m1, j1, rfl⟩ := o1.named; have P1 := Lib.hid (o1.less (Nat.le_trans HL1.out hB.size)); clear o1; replace hB := hB.trans (hb4.mono hB.size))
                | (go_at_call 102; with_reducible refine (ids_c C _ _ _ _ _ _ y _ _ _ _ _ g u2 0 EN.omi _ (Lib.hid (HC _ (HB2 _ hB))) (Lib.hid (hI.out.below (HB2 _ hB))) (Lib.hid (O2.out.below hB)) K2 K4).mono ?_; rintro ee w5 ⟨v2, rfl, o2, hb5⟩; obtain ⟨b2, m2, j2, rfl⟩ := o2.named; have P2 := Lib.hid (o2.less (Nat.le_trans HL1.out hB.size)); replace P1 := Lib.hid (P1.out.below hb5); clear o2; replace hB := hB.trans (hb5.mono hB.size); have HG5 := Lib.hid (HG.out.below hB); obtain ⟨⟨e0, e1, e2, e3, e4, e5, e6, e7, e8, e9, e10, e11, e12, e13⟩, elt⟩ := HG5.out.cells; have f12 := HG5.out.eb.frozen 12; have f13 := HG5.out.eb.frozen 13))
            all_goals
              go_wp2_with fail
              go_meet
              exact ⟨_, _, Lib.hid ((HG5.out.put 12 (.slice b1 m1 j1) _ rfl).put 13 (.slice b2 m2 j2) (eC (vYear d) (mMon d) (mDay d) (d % 7) (vSea C y d).id (vWeek C y d) EN.kind EN.prin EN.rank EN.fy EN.fm EN.fd (.slice b1 m1 j1) (.slice b2 m2 j2)) rfl), Lib.hid (P1.out.kept ((gs_set _ _ _ _).trans (gs_set _ _ _ _)) (.inr (P1.out.ne_blk HG5.out.eb (by decide)))), Lib.hid (P2.out.kept ((gs_set _ _ _ _).trans (gs_set _ _ _ _)) (.inr (P2.out.ne_blk HG5.out.eb (by decide))))⟩
          case rest =>
            clear HG O1 O2 HC K1 K2 K3 K4 HS hB HB2 hqe z4 z5 zl HL1
            obtain ⟨v1, v2, HH, Q1, Q2⟩ := hcut
            obtain ⟨b1, m1, j1, rfl⟩ := Q1.out.named
            obtain ⟨b2, m2, j2, rfl⟩ := Q2.out.named
            obtain ⟨⟨e0, e1, e2, e3, e4, e5, e6, e7, e8, e9, e10, e11, e12, e13⟩, elt⟩ := HH.out.cells
            obtain ⟨⟨y0, y1', y2', y3, y4, y5, y6, y7, y8, y9, y10, y11, y12, y13⟩, ylt⟩ := HH.out.rcells
            obtain ⟨z0, z1, z2, z3, z4, z5, z6, z7, z8, z9, z10, z11, z12, z13⟩ := HH.out.rfroz
            go_wp2_with fail
            have G : wc.grownBy _ (some w.heap.size) := (((((((((((((gs_set wc w.heap.size 0 (.int .i64 (vYear d))).trans (gs_set _ _ 1 (.int .i64 (mMon d)))).trans (gs_set _ _ 2 (.int .i64 (mDay d)))).trans (gs_set _ _ 3 (.int .i64 (d % 7)))).trans (gs_set _ _ 4 (.string (vSea C y d).id))).trans (gs_set _ _ 5 (.int .i64 (vWeek C y d)))).trans (gs_set _ _ 6 (.int .i64 EN.kind))).trans (gs_set _ _ 7 (.string EN.prin))).trans (gs_set _ _ 8 (.int .i64 EN.rank))).trans (gs_set _ _ 9 (.int .i64 EN.fy))).trans (gs_set _ _ 10 (.int .i64 EN.fm))).trans (gs_set _ _ 11 (.int .i64 EN.fd))).trans (gs_set _ _ 12 (.slice b1 m1 j1))).trans (gs_set _ _ 13 (.slice b2 m2 j2))
            refine bodyPost_ret (results_cell_row rfl _ _ w.heap.size 42 #[.int .i64 (vYear d), .int .i64 (mMon d), .int .i64 (mDay d), .int .i64 (d % 7), .string (vSea C y d).id, .int .i64 (vWeek C y d), .int .i64 EN.kind, .string EN.prin, .int .i64 EN.rank, .int .i64 EN.fy, .int .i64 EN.fm, .int .i64 EN.fd, .slice b1 m1 j1, .slice b2 m2 j2] (0, 0) _ rfl HH.out.res.set14 Tryz.underlying42 rfl (by kernel_rfl)) rfl ?_
            exact ⟨_, _, rfl, ⟨(Q1.out.kept G (.inr (fun x => by have := (Q1.out.block _ x).1; omega))).less (Nat.le_succ _), (Q2.out.kept G (.inr (fun x => by have := (Q2.out.block _ x).1; omega))).less (Nat.le_succ _)⟩, HH.out.bel.grown G HH.out.bel.size (fun k hk => by cases hk; exact Nat.le_refl _)⟩
end Go.Proofs.YtdgaflcnigljlaaGreatDoor
