/-
  Contracts and plain facts for the laws on the whole program: the parts below say each what they are. No further condition.
-/
import Derived.Test.YtdgaflcnigljlaaGreatDoorS20
import Derived.Shelf.Spec.SlicesInsertGrow
import Derived.Deep.Cut
import Derived.Deep.CutRange
import Derived.Deep.DeepCutAuto
set_option linter.unusedSimpArgs false
/-
  Contract of the library's Insert of one number ahead of a row of whole numbers that the call owns. No further condition.
-/
namespace Go.Proofs.YtdgaflcnigljlaaGreatDoor
open Go.RowKit Go.Proofs Go.Shelf Go.MapKept Go.Proofs.YtdgaflcnigljlaaGreatDoorW.PrintWords
set_option linter.unusedVariables false
def lIns_ren : Go.Shelf.Ren := ⟨fun | 21 => 141 | 27 => 183 | 28 => 184 | 35 => 210 | 39 => 231 | n => n, fun | 22 => 36 | n => n, fun | n => n⟩
theorem lIns : Go.Proofs.Lays2.n21 Tryz.prog lIns_ren := {
  mixed := by kernel_rfl
  f21 := Tryz.func141.trans (congrArg some (by kernel_rfl))
  f27 := Tryz.func183.trans (congrArg some (by kernel_rfl))
  f28 := Tryz.func184.trans (congrArg some (by kernel_rfl))
  f35 := Tryz.func210.trans (congrArg some (by kernel_rfl))
  f39 := Tryz.func231.trans (congrArg some (by kernel_rfl))
  t0 := Tryz.underlying0
  a0 := Tryz.isAgg0
  z0 := Tryz.sizeOf0
  v0 := Tryz.zeroValue0
  t3 := Tryz.underlying3
  a3 := Tryz.isAgg3
  z3 := Tryz.sizeOf3
  v3 := Tryz.zeroValue3
  t4 := Tryz.underlying4
  a4 := Tryz.isAgg4
  z4 := Tryz.sizeOf4
  v4 := Tryz.zeroValue4
  t22 := Tryz.underlying36
  a22 := Tryz.isAgg36
  z22 := Tryz.sizeOf36
  v22 := Tryz.zeroValue36
  i3 := info3 }
theorem setCells_grown (g : Nat) (vs : List Value) (o : Nat) (w : World) : w.grownBy (w.setCells g o vs) (some g) := by
  obtain ⟨s1, s2, s3, s4⟩ := setCells_same g vs o w
  exact ⟨s1, s2, s3, by rw [s4]; exact Nat.le_refl _, fun k _ hk => setCells_far vs _ k (fun e => hk (by rw [e]))⟩
theorem own_block {w : World} {base g n cap : Nat} {cur : Array Value} {ys : List Int} (hb : base ≤ g) (hg : w.heap[g]? = some (.cells cur 3 (0, 0))) (hn : ys.length = n) (hc : n ≤ cap) (hm : cap ≤ maxLen) (hs : cur.size = cap) (ht : cur.toList.take n = ys.map (Value.int .i64)) :
    Own w base 3 1 (.slice (some ⟨g, 0, none⟩) n cap) (intRows ys) :=
  Own.of_flat ⟨by simp, .inr ⟨g, cap, cur, by rw [hn], hb, hg, by omega, hm, by omega, by rw [Nat.mul_one, hn]; exact ht⟩⟩
theorem zc_size (k : Nat) : (Builtin.zeroCells (Value.int .i64 0).cells k).size = k := by rw [size_zeroCells]; simp [Value.cells]
theorem int_cell (xs : List Int) : ∀ v ∈ xs.map (Value.int .i64), v.oneCell' = true := fun v hv => by obtain ⟨x, _, rfl⟩ := List.mem_map.1 hv; rfl
theorem dgr {w V : World} {row : Option Nat} (h : w.grownBy V row) : w.grownBy V.drew row := ⟨h.os, h.tape, h.output, h.size, h.block⟩
structure InsPost (w w' : World) (base : Nat) (s s' : Value) (ys : List Int) : Prop where
  own : Own w' base 3 1 s' (intRows ys)
  gr : w.grownBy w' s.ownBlock
  at_ : s'.ownBlock = s.ownBlock ∨ ∃ b, s'.ownBlock = some b ∧ w.heap.size ≤ b
theorem shape_blk {w : World} {g : Nat} {cur : Array Value} {t : TypeId} (h : w.heap[g]? = some (.cells cur t (0, 0))) : w.shape? g = some (t, cur.size) := by
  unfold World.shape?; rw [h]
set_option maxHeartbeats 1000000 in
theorem ins_c (x : Int) (s : Value) (base vb : Nat) (xs : List Int) (w : World) (hO : Own w base 3 1 s (intRows xs)) (hV : Blk w vb #[.int .i64 x] 3) (hne : s.ownBlock ≠ some vb) (hl : xs.length ≤ 1000) (hb : base ≤ w.heap.size) :
    Calls Tryz.prog 141 #[s, .int .i64 0, .slice (some ⟨vb, 0, none⟩) 1 1] w fun e w' => ∃ s', e = .returned s' ∧ InsPost w w' base s s' (x :: xs) := by
  have hvs : ∀ (j : Nat) (v : Value), [Value.int .i64 x][j]? = some v → w.cell? ⟨vb, 0 + j, none⟩ = some v := fun j v hj => by
    rw [Nat.zero_add]
    have := hV.cell j
    rw [this]; simpa using hj
  have h1v : ∀ v ∈ [Value.int .i64 x], v.oneCell' = true := fun v hv => by simp at hv; subst hv; rfl
  have new : ∀ (k : Nat) (cs : List Value), cs = (x :: xs).map (Value.int .i64) → ∀ c, Own (w.drew.alloc (.cells (cs.toArray ++ Builtin.zeroCells (Value.int .i64 0).cells (grownCap w (xs.length + 1) c 3 - (xs.length + 1))) 3)) base 3 1 (.slice (some ⟨w.heap.size, 0, none⟩) (xs.length + 1) (grownCap w (xs.length + 1) c 3)) (intRows (x :: xs)) := fun k cs hcs c => by
    have g1 := grownCap_ge w (xs.length + 1) c 3
    have g2 := grownCap_le_maxLen w (xs.length + 1) c 3 (by simp only [maxLen]; omega)
    refine own_block hb (heap_alloc_new w.drew _) (by simp) g1 g2 ?_ ?_
    · rw [Array.size_append, zc_size, hcs]; simp; omega
    · rw [Array.toList_append, hcs, List.take_append_of_le_length (by simp), List.take_of_length_le (by simp)]
  have dg : ∀ g : Nat, w.grownBy w.drew (some g) := fun g => ⟨rfl, rfl, rfl, Nat.le_refl _, fun _ _ _ => rfl⟩
  have newg : ∀ (o : Obj) (row : Option Nat), w.grownBy (w.drew.alloc o) row := fun o row => ⟨rfl, rfl, rfl, by simp, fun k hk _ => heap_alloc_old w.drew _ hk⟩
  rcases hO.flat.2 with ⟨rfl, hn⟩ | ⟨g, cap, cur, rfl, hbg, hg, hnc, hcm, hcs, htake⟩
  · have hx : xs = [] := List.eq_nil_of_length_eq_zero hn
    subst hx
    refine (Any2.slices_Insert_int_end_grow lIns none 0 0 vb 0 1 1 [] [.int .i64 x] w (by omega) (Nat.le_refl _) (by omega) (by omega) rfl rfl (fun _ => rfl) (fun a h => by cases h) hvs h1v).mono ?_
    rintro e w' ⟨rfl, rfl⟩
    exact ⟨_, rfl, new 0 _ rfl 0, newg _ _, .inr ⟨_, rfl, Nat.le_refl _⟩⟩
  · have hcc : ∀ (j : Nat) (v : Value), (xs.map (Value.int .i64))[j]? = some v → w.cell? ⟨g, 0 + j, none⟩ = some v := fun j v hj => by
      have := hO.flat.cells (g := g) rfl j v hj
      simpa [Addr.add_lit] using this
    have hne' : vb ≠ g := fun e => hne (by rw [e]; rfl)
    rw [Nat.mul_one] at hcs htake
    by_cases h0 : xs.length = 0
    · have hx : xs = [] := List.eq_nil_of_length_eq_zero h0
      subst hx
      by_cases hc : cap = 0
      · refine (Any2.slices_Insert_int_end_grow lIns (some ⟨g, 0, none⟩) 0 cap vb 0 1 1 [] [.int .i64 x] w (by omega) (Nat.zero_le _) (by omega) (by omega) rfl rfl (fun _ => rfl) (fun a h j v hj => by simp at hj) hvs h1v).mono ?_
        rintro e w' ⟨rfl, rfl⟩
        exact ⟨_, rfl, new 0 _ rfl cap, newg _ _, .inr ⟨_, rfl, Nat.le_refl _⟩⟩
      · refine (Any2.slices_Insert_int_end_room lIns g 0 0 cap vb 0 1 1 [.int .i64 x] w (by omega) (by omega) hcm rfl (fun j hj => ?_) (fun j hj => ?_) hvs h1v).mono ?_
        · rw [show (0 + 0 + j) = j by omega, show w.cell? ⟨g, j, none⟩ = cur[j]? from blk_cell hg j, Array.getElem?_eq_getElem (by omega)]; rfl
        · exact blk_frozen hg _
        · rintro e w' ⟨rfl, rfl⟩
          obtain ⟨cur', h3, h4, h5⟩ := setCells_row [Value.int .i64 x] 0 w cur hg (by simp; omega)
          refine ⟨_, rfl, own_block hbg h3 rfl (by simp; omega) hcm (by rw [h4, hcs]) ?_, setCells_grown _ _ _ _, .inl rfl⟩
          rw [h5]; simp
    · have h1c := int_cell xs
      by_cases hr : xs.length + 1 ≤ cap
      · refine (Any2.slices_Insert_int_shift lIns g 0 xs.length cap 0 vb 0 1 1 (xs.map (Value.int .i64)) [.int .i64 x] w (by omega) (by omega) hr hcm hne' (by simp) rfl hcc (fun j hj => ?_) (fun j hj => ?_) hvs h1c h1v 3 3 1 cap (shape_blk hV) (by rw [← hcs]; exact shape_blk hg) (by omega) (blk_frozen hV _) (blk_frozen hV _)).mono ?_
        · rw [Nat.zero_add, show w.cell? ⟨g, j, none⟩ = cur[j]? from blk_cell hg j, Array.getElem?_eq_getElem (by omega)]; rfl
        · exact blk_frozen hg _
        · rintro e w' ⟨rfl, rfl⟩
          obtain ⟨cur1, h3, h4, h5⟩ := setCells_row ((xs.map (Value.int .i64)).drop 0) (0 + (0 + 1)) w.drew cur hg (by simp; omega)
          obtain ⟨cur2, h6, h7, h8⟩ := setCells_row [Value.int .i64 x] (0 + 0) _ cur1 h3 (by simp; omega)
          refine ⟨_, rfl, own_block hbg h6 (by simp) hr hcm (by rw [h7, h4, hcs]) ?_, ((dg g).trans (setCells_grown g _ _ w.drew)).trans (setCells_grown g _ _ _), .inl rfl⟩
          rw [h8, h5]
          have hl1 : (List.take 1 cur.toList).length = 1 := by rw [List.length_take, Array.length_toList]; omega
          simp [hl1, List.drop_append, List.take_append]
      · refine (Any2.slices_Insert_int_grow lIns g 0 xs.length cap 0 vb 0 1 1 (xs.map (Value.int .i64)) [.int .i64 x] w (by omega) (by omega) (by omega) (by omega) (by omega) (by simp) rfl hcc hvs h1c h1v).mono ?_
        rintro e w' ⟨rfl, rfl⟩
        have g1 := grownCap_ge w (xs.length + 1) cap 3
        have g2 := grownCap_le_maxLen w (xs.length + 1) cap 3 (by simp only [maxLen]; omega)
        obtain ⟨W0, hW⟩ : ∃ W0, (w.alloc (.cells (((xs.map (Value.int .i64)).take 0).toArray ++ Builtin.zeroCells (Value.int .i64 0).cells (xs.length + 1 - 0) ++ Builtin.zeroCells (Value.int .i64 0).cells (grownCap w (xs.length + 1) cap 3 - (xs.length + 1))) 3)).drew = W0 := ⟨_, rfl⟩
        obtain ⟨cur0, hcur⟩ : ∃ cur0, ((xs.map (Value.int .i64)).take 0).toArray ++ Builtin.zeroCells (Value.int .i64 0).cells (xs.length + 1 - 0) ++ Builtin.zeroCells (Value.int .i64 0).cells (grownCap w (xs.length + 1) cap 3 - (xs.length + 1)) = cur0 := ⟨_, rfl⟩
        have hsz : cur0.size = grownCap w (xs.length + 1) cap 3 := by rw [← hcur, Array.size_append, Array.size_append, zc_size, zc_size]; simp; omega
        have hW0 : W0.heap[w.heap.size]? = some (.cells cur0 3 (0, 0)) := by rw [← hW, ← hcur]; exact heap_alloc_new w _
        have hG0 : w.grownBy W0 (some w.heap.size) := by rw [← hW]; exact ⟨rfl, rfl, rfl, by simp, fun k hk _ => heap_alloc_old w _ hk⟩
        have hGn : w.grownBy W0 (Value.ownBlock (.slice (some ⟨g, 0, none⟩) xs.length cap)) := by rw [← hW]; exact ⟨rfl, rfl, rfl, by simp, fun k hk _ => heap_alloc_old w _ hk⟩
        obtain ⟨cur1, h3, h4, h5⟩ := setCells_row [Value.int .i64 x] 0 W0 cur0 hW0 (by simp; omega)
        obtain ⟨cur2, h6, h7, h8⟩ := setCells_row ((xs.map (Value.int .i64)).drop 0) (0 + 1) ((W0.setCells w.heap.size 0 [Value.int .i64 x]).drew) cur1 h3 (by simp; omega)
        have far : ∀ (vs : List Value) (o : Nat) (V : World), w.grownBy V (Value.ownBlock (.slice (some ⟨g, 0, none⟩) xs.length cap)) → w.grownBy (V.setCells w.heap.size o vs) (Value.ownBlock (.slice (some ⟨g, 0, none⟩) xs.length cap)) := fun vs o V h => by
          obtain ⟨s1, s2, s3, s4⟩ := setCells_same w.heap.size vs o V
          exact ⟨s1.trans h.os, s2.trans h.tape, s3.trans h.output, by rw [s4]; exact h.size, fun k hk hne => (setCells_far vs _ k (by omega)).trans (h.block k hk hne)⟩
        simp only [show lIns_ren.t 3 = 3 from rfl]
        rw [hW]
        refine ⟨_, rfl, own_block hb h6 (by simp) g1 g2 (by rw [h7, h4, hsz]) ?_, far _ _ _ (dgr (far _ _ _ hGn)), .inr ⟨_, rfl, Nat.le_refl _⟩⟩
        rw [h8, h5]
        simp
end Go.Proofs.YtdgaflcnigljlaaGreatDoor
/-
  Contracts of package occurrence: a day's principal celebration displaced. No further condition.
-/
namespace Go.Proofs.YtdgaflcnigljlaaGreatDoor
open Go.RowKit Go.Proofs Go.MapKept Go.Proofs.YtdgaflcnigljlaaGreatDoorW.PrintWords
set_option linter.unusedVariables false
/-- What Displace keeps of what it was given. -/
structure DpBox (w W : World) (C : Cat) (A1 : Option Addr) (n1 c1 : Nat) (A2 : Option Addr) (n2 c2 : Nat) (p : Cand) (vc vo vi : Value) (base : Nat) (cm om im : List Int) : Prop where
  bel : Below w.heap.size w W
  box : Blk W w.heap.size #[.int .i64 C.free, .slice A1 n1 c1, .slice A2 n2 c2] 25
  rb : Blk W (w.heap.size + 1) #[.int .i64 p.kind, .int .i64 p.idx, .int .i64 p.rank, .string p.id, vc, vo, vi] 117
  res : Blk W (w.heap.size + 1 + 1) #[.int .i64 0, .int .i64 0, .int .i64 0, .string ⟨#[]⟩, .slice none 0 0, .slice none 0 0, .slice none 0 0] 117
  oc : Own W base 3 1 vc (intRows cm)
  oo : Own W base 3 1 vo (intRows om)
  oi : Own W base 3 1 vi (intRows im)
section
variable {w W W2 : World} {C : Cat} {A1 A2 : Option Addr} {n1 c1 n2 c2 : Nat} {p : Cand} {vc vo vi : Value} {base : Nat} {cm om im : List Int}
theorem DpBox.below (h : DpBox w W C A1 n1 c1 A2 n2 c2 p vc vo vi base cm om im) (hb : Below W.heap.size W W2) : DpBox w W2 C A1 n1 c1 A2 n2 c2 p vc vo vi base cm om im :=
  ⟨below_then h.bel h.bel.size hb, h.box.below hb, h.rb.below hb, h.res.below hb, h.oc.below hb, h.oo.below hb, h.oi.below hb⟩
end
structure DqBox (w W : World) (C : Cat) (A1 : Option Addr) (n1 c1 : Nat) (A2 : Option Addr) (n2 c2 : Nat) (p : Cand) (vc vo vi : Value) (base : Nat) (cm om im : List Int) (q : Nat) (u1 u2 u3 : Value) : Prop where
  box : DpBox w W C A1 n1 c1 A2 n2 c2 p vc vo vi base cm om im
  qb : Blk W q #[.int .i64 0, .int .i64 0, .int .i64 0, .string ⟨#[]⟩, u1, u2, u3] 117
  ql : w.heap.size + 1 + 1 < q
  o1 : Own W (w.heap.size + 1 + 1 + 1) 3 1 u1 (intRows cm)
  o2 : Own W (w.heap.size + 1 + 1 + 1) 3 1 u2 (intRows om)
  o3 : Own W (w.heap.size + 1 + 1 + 1) 3 1 u3 (intRows im)
  p12 : ∀ b, u1.ownBlock = some b → u2.ownBlock ≠ some b
  p13 : ∀ b, u1.ownBlock = some b → u3.ownBlock ≠ some b
  p23 : ∀ b, u2.ownBlock = some b → u3.ownBlock ≠ some b
theorem ap_lt {V V2 : World} {b1 b2 e1 s1 e2 s2 : Nat} {u1 u2 : Value} {r1 r2 : List (Array Value)} (h1 : Own V b1 e1 s1 u1 r1) (h2 : Own V2 b2 e2 s2 u2 r2) (hle : V.heap.size ≤ b2) : ∀ b, u1.ownBlock = some b → u2.ownBlock ≠ some b := fun b hb hb' => by
  have := (h1.block b hb).2
  have := (h2.block b hb').1
  omega
theorem DqBox.new {w V : World} {C : Cat} {A1 : Option Addr} {n1 c1 : Nat} {A2 : Option Addr} {n2 c2 : Nat} {p : Cand} {vc vo vi : Value} {base : Nat} {cm om im : List Int} {u1 u2 u3 : Value} (h : DpBox w V C A1 n1 c1 A2 n2 c2 p vc vo vi base cm om im)
    (o1 : Own V (w.heap.size + 1 + 1 + 1) 3 1 u1 (intRows cm)) (o2 : Own V (w.heap.size + 1 + 1 + 1) 3 1 u2 (intRows om)) (o3 : Own V (w.heap.size + 1 + 1 + 1) 3 1 u3 (intRows im)) (p12 : ∀ b, u1.ownBlock = some b → u2.ownBlock ≠ some b) (p13 : ∀ b, u1.ownBlock = some b → u3.ownBlock ≠ some b) (p23 : ∀ b, u2.ownBlock = some b → u3.ownBlock ≠ some b)
    (hb : w.heap.size + 1 + 1 < V.heap.size) :
    DqBox w (V.alloc (.cells #[.int .i64 0, .int .i64 0, .int .i64 0, .string ⟨#[]⟩, u1, u2, u3] 117)) C A1 n1 c1 A2 n2 c2 p vc vo vi base cm om im V.heap.size u1 u2 u3 :=
  ⟨h.below ((Below.refl _ _).alloc (Nat.le_refl _) _), Blk.new _ _ _, hb, o1.alloc _, o2.alloc _, o3.alloc _, p12, p13, p23⟩
theorem DqBox.set {w V : World} {C : Cat} {A1 : Option Addr} {n1 c1 : Nat} {A2 : Option Addr} {n2 c2 : Nat} {p : Cand} {vc vo vi : Value} {base : Nat} {cm om im : List Int} {u1 u2 u3 : Value} {q : Nat} (h : DpBox w V C A1 n1 c1 A2 n2 c2 p vc vo vi base cm om im) (hq : Blk V q #[.int .i64 0, .int .i64 0, .int .i64 0, .string ⟨#[]⟩, .slice none 0 0, .slice none 0 0, .slice none 0 0] 117)
    (o1 : Own V (w.heap.size + 1 + 1 + 1) 3 1 u1 (intRows cm)) (o2 : Own V (w.heap.size + 1 + 1 + 1) 3 1 u2 (intRows om)) (o3 : Own V (w.heap.size + 1 + 1 + 1) 3 1 u3 (intRows im)) (p12 : ∀ b, u1.ownBlock = some b → u2.ownBlock ≠ some b) (p13 : ∀ b, u1.ownBlock = some b → u3.ownBlock ≠ some b) (p23 : ∀ b, u2.ownBlock = some b → u3.ownBlock ≠ some b)
    (hb : w.heap.size + 1 + 1 < q) :
    DqBox w (((((((V.setCell ⟨q, 0, none⟩ (.int .i64 0)).setCell ⟨q, 1, none⟩ (.int .i64 0)).setCell ⟨q, 2, none⟩ (.int .i64 0)).setCell ⟨q, 3, none⟩ (.string ⟨#[]⟩)).setCell ⟨q, 4, none⟩ u1).setCell ⟨q, 5, none⟩ u2).setCell ⟨q, 6, none⟩ u3) C A1 n1 c1 A2 n2 c2 p vc vo vi base cm om im q u1 u2 u3 := by
  have gs : ∀ (V : World) (j : Nat) (v : Value), V.grownBy (V.setCell ⟨q, j, none⟩ v) (some q) := fun V j v => ⟨rfl, rfl, rfl, (KeepsWalks.setCell V _ _).size, fun k _ hk => Below.heap_setCell _ _ _ k (fun e => hk (by rw [e]))⟩
  have G := ((((((gs V 0 (.int .i64 0)).trans (gs _ 1 (.int .i64 0))).trans (gs _ 2 (.int .i64 0))).trans (gs _ 3 (.string ⟨#[]⟩))).trans (gs _ 4 u1)).trans (gs _ 5 u2)).trans (gs _ 6 u3)
  have ne : ∀ {u : Value} {b : Nat} {r : List (Array Value)}, Own V b 3 1 u r → u.ownBlock ≠ some q := fun h => h.ne_blk hq (by decide)
  exact ⟨⟨h.bel.grown G h.bel.size (fun k e => by cases e; omega), h.box.grown G (by simp; omega), h.rb.grown G (by simp; omega), h.res.grown G (by simp; omega), h.oc.kept G (.inr (ne h.oc)), h.oo.kept G (.inr (ne h.oo)), h.oi.kept G (.inr (ne h.oi))⟩,
    ((((((hq.put 0 _ rfl).put 1 _ rfl).put 2 _ rfl).put 3 _ rfl).put 4 _ rfl).put 5 _ rfl).put 6 _ rfl, hb, o1.kept G (.inr (ne o1)), o2.kept G (.inr (ne o2)), o3.kept G (.inr (ne o3)), p12, p13, p23⟩
structure DqFin (w W : World) (q : Nat) (u1 u2 u3 : Value) (cu ou iu : List Int) : Prop where
  bel : Below w.heap.size w W
  qb : Blk W q #[.int .i64 0, .int .i64 0, .int .i64 0, .string ⟨#[]⟩, u1, u2, u3] 117
  res : Blk W (w.heap.size + 1 + 1) #[.int .i64 0, .int .i64 0, .int .i64 0, .string ⟨#[]⟩, .slice none 0 0, .slice none 0 0, .slice none 0 0] 117
  o1 : Own W (w.heap.size + 1 + 1 + 1) 3 1 u1 (intRows cu)
  o2 : Own W (w.heap.size + 1 + 1 + 1) 3 1 u2 (intRows ou)
  o3 : Own W (w.heap.size + 1 + 1 + 1) 3 1 u3 (intRows iu)
section
variable {w V W : World} {C : Cat} {A1 : Option Addr} {n1 c1 : Nat} {A2 : Option Addr} {n2 c2 : Nat} {p : Cand} {vc vo vi : Value} {base : Nat} {cm om im : List Int} {q : Nat} {u1 u2 u3 : Value}
theorem DqBox.fin (h : DqBox w V C A1 n1 c1 A2 n2 c2 p vc vo vi base cm om im q u1 u2 u3) : DqFin w V q u1 u2 u3 cm om im := ⟨h.box.bel, h.qb, h.box.res, h.o1, h.o2, h.o3⟩
theorem gs_set (V : World) (q j : Nat) (v : Value) : V.grownBy (V.setCell ⟨q, j, none⟩ v) (some q) := ⟨rfl, rfl, rfl, (KeepsWalks.setCell V _ _).size, fun k _ hk => Below.heap_setCell _ _ _ k (fun e => hk (by rw [e]))⟩
theorem DqBox.ins2 (h : DqBox w V C A1 n1 c1 A2 n2 c2 p vc vo vi base cm om im q u1 u2 u3) {i : Int} {s' : Value} (hp : InsPost (V.alloc (.cells #[.int .i64 i] 3)) W (w.heap.size + 1 + 1 + 1) u2 s' (i :: om)) : DqFin w (W.setCell ⟨q, 5, none⟩ s') q u1 s' u3 cm (i :: om) im := by
  have nq : ∀ {u : Value} {b : Nat} {r : List (Array Value)} {W : World} {u1 u2 u3 : Value}, Blk W q #[.int .i64 0, .int .i64 0, .int .i64 0, .string ⟨#[]⟩, u1, u2, u3] 117 → Own W b 3 1 u r → u.ownBlock ≠ some q := fun hq h => h.ne_blk hq (by decide)
  have nr : u2.ownBlock ≠ some (w.heap.size + 1 + 1) := h.o2.ne_blk h.box.res (by decide)
  have bq := (h.qb.alloc (.cells #[.int .i64 i] 3)).grown hp.gr (nq h.qb h.o2)
  have b3 : Below w.heap.size w W := (h.box.bel.alloc h.box.bel.size _).grown hp.gr (Nat.le_trans h.box.bel.size (by simp)) (fun k e => by have := (h.o2.block k e).1; omega)
  have hl := h.ql
  have ok : (u1.ownBlock = none ∨ u1.ownBlock ≠ u2.ownBlock) → Own (W.setCell ⟨q, 5, none⟩ s') (w.heap.size + 1 + 1 + 1) 3 1 u1 (intRows cm) := fun h' => ((h.o1.alloc _).kept hp.gr h').kept (gs_set _ _ _ _) (.inr (nq h.qb h.o1))
  have hne : u1.ownBlock = none ∨ u1.ownBlock ≠ u2.ownBlock := by
    cases e : u1.ownBlock with
    | none => exact .inl rfl
    | some b => exact .inr fun e2 => h.p12 b e e2.symm
  have hne3 : u3.ownBlock = none ∨ u3.ownBlock ≠ u2.ownBlock := by
    cases e : u3.ownBlock with
    | none => exact .inl rfl
    | some b => exact .inr fun e2 => h.p23 b e2.symm e
  exact ⟨b3.grown (gs_set _ _ _ _) b3.size (fun k e => by cases e; omega), bq.put 5 _ rfl, ((h.box.res.alloc _).grown hp.gr nr).grown (gs_set _ _ _ _) (by simp; omega), ok hne, hp.own.kept (gs_set _ _ _ _) (.inr (nq bq hp.own)), ((h.o3.alloc _).kept hp.gr hne3).kept (gs_set _ _ _ _) (.inr (nq h.qb h.o3))⟩
theorem DqBox.ins1 (h : DqBox w V C A1 n1 c1 A2 n2 c2 p vc vo vi base cm om im q u1 u2 u3) {i : Int} {s' : Value} (hp : InsPost (V.alloc (.cells #[.int .i64 i] 3)) W (w.heap.size + 1 + 1 + 1) u1 s' (i :: cm)) : DqFin w (W.setCell ⟨q, 4, none⟩ s') q s' u2 u3 (i :: cm) om im := by
  have nq : ∀ {u : Value} {b : Nat} {r : List (Array Value)} {W : World} {u1 u2 u3 : Value}, Blk W q #[.int .i64 0, .int .i64 0, .int .i64 0, .string ⟨#[]⟩, u1, u2, u3] 117 → Own W b 3 1 u r → u.ownBlock ≠ some q := fun hq h => h.ne_blk hq (by decide)
  have nr : u1.ownBlock ≠ some (w.heap.size + 1 + 1) := h.o1.ne_blk h.box.res (by decide)
  have bq := (h.qb.alloc (.cells #[.int .i64 i] 3)).grown hp.gr (nq h.qb h.o1)
  have b3 : Below w.heap.size w W := (h.box.bel.alloc h.box.bel.size _).grown hp.gr (Nat.le_trans h.box.bel.size (by simp)) (fun k e => by have := (h.o1.block k e).1; omega)
  have hl := h.ql
  have ok : (u2.ownBlock = none ∨ u2.ownBlock ≠ u1.ownBlock) → Own (W.setCell ⟨q, 4, none⟩ s') (w.heap.size + 1 + 1 + 1) 3 1 u2 (intRows om) := fun h' => ((h.o2.alloc _).kept hp.gr h').kept (gs_set _ _ _ _) (.inr (nq h.qb h.o2))
  have hne : u2.ownBlock = none ∨ u2.ownBlock ≠ u1.ownBlock := by
    cases e : u2.ownBlock with
    | none => exact .inl rfl
    | some b => exact .inr fun e2 => h.p12 b e2.symm e
  have hne3 : u3.ownBlock = none ∨ u3.ownBlock ≠ u1.ownBlock := by
    cases e : u3.ownBlock with
    | none => exact .inl rfl
    | some b => exact .inr fun e2 => h.p13 b e2.symm e
  exact ⟨b3.grown (gs_set _ _ _ _) b3.size (fun k e => by cases e; omega), bq.put 4 _ rfl, ((h.box.res.alloc _).grown hp.gr nr).grown (gs_set _ _ _ _) (by simp; omega), hp.own.kept (gs_set _ _ _ _) (.inr (nq bq hp.own)), ok hne, ((h.o3.alloc _).kept hp.gr hne3).kept (gs_set _ _ _ _) (.inr (nq h.qb h.o3))⟩
end
theorem cell_set_ne {V : World} {b q i j : Nat} {v : Value} (h : b ≠ q) : (V.setCell ⟨q, j, none⟩ v).cell? ⟨b, i, none⟩ = V.cell? ⟨b, i, none⟩ := by
  unfold World.cell?
  rw [Below.heap_setCell _ _ _ _ h]
theorem ne_of_lt2 {a b c : Nat} (h1 : a < b) (h2 : b ≤ c) : a ≠ c := by omega
set_option maxRecDepth 100000 in
set_option maxHeartbeats 40000000 in
theorem displace_c (C : Cat) (A1 : Option Addr) (n1 c1 : Nat) (A2 : Option Addr) (n2 c2 : Nat) (p : Cand) (vc vo vi : Value) (base : Nat) (cm om im : List Int) (w : World) (hI : Hid (CatIn w C A1 n1 c1 A2 n2 c2)) (hG : Hid C.Good)
    (hc : Hid (Own w base 3 1 vc (intRows cm))) (ho : Hid (Own w base 3 1 vo (intRows om))) (hi : Hid (Own w base 3 1 vi (intRows im))) (lc : Hid (cm.length ≤ 1000)) (lo : Hid (om.length ≤ 1000)) (li : Hid (im.length ≤ 1000)) (hp : Hid (p.kind = 2 → 0 ≤ p.idx ∧ p.idx < C.feas.length)) :
    Calls Tryz.prog 101 #[.agg #[.int .i64 C.free, .slice A1 n1 c1, .slice A2 n2 c2], .agg #[.int .i64 p.kind, .int .i64 p.idx, .int .i64 p.rank, .string p.id, vc, vo, vi]] w fun e w' => ∃ u1 u2 u3, e = .returned (.agg #[.int .i64 0, .int .i64 0, .int .i64 0, .string ⟨#[]⟩, u1, u2, u3]) ∧
      (Own w' w.heap.size 3 1 u1 (intRows (if p.kind = 2 ∧ ¬ polOf C p.idx = 3 then p.idx :: cm else cm)) ∧ Own w' w.heap.size 3 1 u2 (intRows (if p.kind = 2 ∧ polOf C p.idx = 3 then p.idx :: om else om)) ∧ Own w' w.heap.size 3 1 u3 (intRows im)) ∧ Below w.heap.size w w' := by
  obtain ⟨CU, hCU⟩ : ∃ CU, (if p.kind = 2 ∧ ¬ polOf C p.idx = 3 then p.idx :: cm else cm) = CU := ⟨_, rfl⟩
  obtain ⟨OU, hOU⟩ : ∃ OU, (if p.kind = 2 ∧ polOf C p.idx = 3 then p.idx :: om else om) = OU := ⟨_, rfl⟩
  rw [hCU, hOU]
  have ECU := Lib.hid hCU
  have EOU := Lib.hid hOU
  clear hCU hOU
  have HB : Hid (DpBox w _ C A1 n1 c1 A2 n2 c2 p vc vo vi base cm om im) := Lib.hid ⟨(((Below.refl w.heap.size w).alloc (Nat.le_refl _) (.cells #[.int .i64 C.free, .slice A1 n1 c1, .slice A2 n2 c2] 25)).alloc (by simp) (.cells #[.int .i64 p.kind, .int .i64 p.idx, .int .i64 p.rank, .string p.id, vc, vo, vi] 117)).alloc (by simp; omega) (.cells #[.int .i64 0, .int .i64 0, .int .i64 0, .string ⟨#[]⟩, .slice none 0 0, .slice none 0 0, .slice none 0 0] 117),
    ((Blk.new _ _ _).alloc _).alloc _, (Blk.new2 _ _ _ _).alloc _, Blk.new3 _ _ _ _ _, ((hc.out.alloc _).alloc _).alloc _, ((ho.out.alloc _).alloc _).alloc _, ((hi.out.alloc _).alloc _).alloc _⟩
  go_enter Tryz.func101, Tryz.ntmps101
  go_upto_region 1 with fail
  generalize (((w.alloc (.cells #[.int .i64 C.free, .slice A1 n1 c1, .slice A2 n2 c2] 25)).alloc (.cells #[.int .i64 p.kind, .int .i64 p.idx, .int .i64 p.rank, .string p.id, vc, vo, vi] 117)).alloc (.cells #[.int .i64 0, .int .i64 0, .int .i64 0, .string ⟨#[]⟩, .slice none 0 0, .slice none 0 0, .slice none 0 0] 117)) = W0 at HB ⊢
  have HK : ∀ V, Below W0.heap.size W0 V → DpBox w V C A1 n1 c1 A2 n2 c2 p vc vo vi base cm om im := fun V hb => HB.out.below hb
  have hB : Below W0.heap.size W0 W0.drew := (Below.refl _ _).drew
  have hA := ((Below.refl W0.heap.size W0).alloc (Nat.le_refl _) (.cells #[.int .i64 0, .int .i64 0, .int .i64 0, .string ⟨#[]⟩, .slice none 0 0, .slice none 0 0, .slice none 0 0] 117)).drew
  have HQA := (Blk.new W0 #[.int .i64 0, .int .i64 0, .int .i64 0, .string ⟨#[]⟩, .slice none 0 0, .slice none 0 0, .slice none 0 0] 117).drew
  have k4 : W0.cell? ⟨w.heap.size + 1, 4, none⟩ = some vc := HB.out.rb.cell 4
  have k5 : W0.cell? ⟨w.heap.size + 1, 5, none⟩ = some vo := HB.out.rb.cell 5
  have k6 : W0.cell? ⟨w.heap.size + 1, 6, none⟩ = some vi := HB.out.rb.cell 6
  have lt1 := HB.out.rb.lt
  have lt3 : w.heap.size + 1 + 1 < W0.heap.size := HB.out.res.lt
  have HC : ∀ V, Below W0.heap.size W0 V → V.cell? ⟨w.heap.size + 1, 4, none⟩ = some vc ∧ V.cell? ⟨w.heap.size + 1, 5, none⟩ = some vo ∧ V.cell? ⟨w.heap.size + 1, 6, none⟩ = some vi := fun V hb => ⟨(HK _ hb).rb.cell 4, (HK _ hb).rb.cell 5, (HK _ hb).rb.cell 6⟩
  go_cut [5] (fun v wx => ∃ (q : Nat) (u1 u2 u3 : Value), v = .pointer (some ⟨q, 0, none⟩) ∧ Hid (DqBox w wx C A1 n1 c1 A2 n2 c2 p vc vo vi base cm om im q u1 u2 u3))
  case first =>
   go_region_held3 (fun w' => w'.cell? ⟨w.heap.size + 1, 4, none⟩ = some vc ∧ w'.cell? ⟨w.heap.size + 1, 5, none⟩ = some vo ∧ w'.cell? ⟨w.heap.size + 1, 6, none⟩ = some vi)
     (first
       | (with_reducible exact HC _ hB)
       | (with_reducible exact HC _ hA)
       | (with_reducible exact HC _ (hB.alloc hB.size _))
       | (simp only [cell_set_ne hqe]; with_reducible exact HC _ hB))
     (first
       | (go_at_call 140; (first | with_reducible refine (clonei_c vc base cm _ (Lib.hid (HK _ hB).oc) lc).mono ?_ | with_reducible refine (clonei_c vc base cm _ (Lib.hid (HK _ hA).oc) lc).mono ?_); rintro e w1 ⟨u1, rfl, o1, hb1⟩; obtain ⟨a1, m1, c1', rfl⟩ := o1.named; (first | with_reducible replace o1 := o1.less (Nat.le_trans lt3 hB.size) | with_reducible replace o1 := o1.less (Nat.le_trans lt3 (hB.alloc hB.size _).size) | with_reducible replace o1 := o1.less (Nat.le_trans lt3 hA.size)); (first | (with_reducible replace hB := hB.trans (hb1.mono hB.size); (try with_reducible replace hq := hq.below hb1)) | (have hq := HQA.below hb1; have hqe := ne_of_lt2 lt1 (Nat.le_refl W0.heap.size); have hql := lt3; replace hB := hA.trans (hb1.mono hA.size))); (try (have q0 := hq.cell 0; have q1 := hq.cell 1; have q2 := hq.cell 2; have q3 := hq.cell 3; have q4 := hq.cell 4; have q5 := hq.cell 5; have q6 := hq.cell 6; have f0 := hq.frozen 0; have f1 := hq.frozen 1; have f2 := hq.frozen 2; have f3 := hq.frozen 3; have f4 := hq.frozen 4; have f5 := hq.frozen 5; have f6 := hq.frozen 6)))
       | (go_at_call 140; (first | with_reducible refine (clonei_c vo base om _ (Lib.hid (HK _ hB).oo) lo).mono ?_ | with_reducible refine (clonei_c vo base om _ (Lib.hid (HK _ (hB.alloc hB.size _)).oo) lo).mono ?_); rintro e w2 ⟨u2, rfl, o2, hb2⟩; obtain ⟨a2, m2, c2', rfl⟩ := o2.named; have p12 := ap_lt o1 o2 (by first | exact Nat.le_refl _ | simp); (first | with_reducible replace o2 := o2.less (Nat.le_trans lt3 hB.size) | with_reducible replace o2 := o2.less (Nat.le_trans lt3 (hB.alloc hB.size _).size) | with_reducible replace o2 := o2.less (Nat.le_trans lt3 hA.size)); (first | (with_reducible replace hB := hB.trans (hb2.mono hB.size); (try with_reducible replace hq := hq.below hb2); (try with_reducible replace o1 := o1.below hb2)) | (have hq := (Blk.new _ #[.int .i64 0, .int .i64 0, .int .i64 0, .string ⟨#[]⟩, .slice none 0 0, .slice none 0 0, .slice none 0 0] 117).below hb2; have hqe := ne_of_lt2 lt1 hB.size; have hql := Nat.lt_of_lt_of_le lt3 hB.size; replace hB := (hB.alloc hB.size _).trans (hb2.mono (hB.alloc hB.size _).size); (try with_reducible replace o1 := (o1.alloc _).below hb2))); (try (have q0 := hq.cell 0; have q1 := hq.cell 1; have q2 := hq.cell 2; have q3 := hq.cell 3; have q4 := hq.cell 4; have q5 := hq.cell 5; have q6 := hq.cell 6; have f0 := hq.frozen 0; have f1 := hq.frozen 1; have f2 := hq.frozen 2; have f3 := hq.frozen 3; have f4 := hq.frozen 4; have f5 := hq.frozen 5; have f6 := hq.frozen 6)))
       | (go_at_call 140; (first | with_reducible refine (clonei_c vi base im _ (Lib.hid (HK _ hB).oi) li).mono ?_ | with_reducible refine (clonei_c vi base im _ (Lib.hid (HK _ (hB.alloc hB.size _)).oi) li).mono ?_); rintro e w3 ⟨u3, rfl, o3, hb3⟩; obtain ⟨a3, m3, c3', rfl⟩ := o3.named; have p13 := ap_lt o1 o3 (by first | exact Nat.le_refl _ | simp); have p23 := ap_lt o2 o3 (by first | exact Nat.le_refl _ | simp); (first | with_reducible replace o3 := o3.less (Nat.le_trans lt3 hB.size) | with_reducible replace o3 := o3.less (Nat.le_trans lt3 (hB.alloc hB.size _).size) | with_reducible replace o3 := o3.less (Nat.le_trans lt3 hA.size)); (first | (with_reducible replace hB := hB.trans (hb3.mono hB.size); (try with_reducible replace hq := hq.below hb3); (try with_reducible replace o1 := o1.below hb3); (try with_reducible replace o2 := o2.below hb3)) | (have hq := (Blk.new _ #[.int .i64 0, .int .i64 0, .int .i64 0, .string ⟨#[]⟩, .slice none 0 0, .slice none 0 0, .slice none 0 0] 117).below hb3; have hqe := ne_of_lt2 lt1 hB.size; have hql := Nat.lt_of_lt_of_le lt3 hB.size; replace hB := (hB.alloc hB.size _).trans (hb3.mono (hB.alloc hB.size _).size); (try with_reducible replace o1 := (o1.alloc _).below hb3); (try with_reducible replace o2 := (o2.alloc _).below hb3))); (try (have q0 := hq.cell 0; have q1 := hq.cell 1; have q2 := hq.cell 2; have q3 := hq.cell 3; have q4 := hq.cell 4; have q5 := hq.cell 5; have q6 := hq.cell 6; have f0 := hq.frozen 0; have f1 := hq.frozen 1; have f2 := hq.frozen 2; have f3 := hq.frozen 3; have f4 := hq.frozen 4; have f5 := hq.frozen 5; have f6 := hq.frozen 6))))
   all_goals (go_wp2_with fail)
   all_goals go_meet
   · exact ⟨_, _, _, _, rfl, Lib.hid (DqBox.new (HK _ hB) o1 o2 o3 p12 p13 p23 (Nat.lt_of_lt_of_le lt3 hB.size))⟩
   · exact ⟨_, _, _, _, rfl, Lib.hid (DqBox.set (HK _ hB) hq o1 o2 o3 p12 p13 p23 hql)⟩
   · exact ⟨_, _, _, _, rfl, Lib.hid (DqBox.set (HK _ hB) hq o1 o2 o3 p12 p13 p23 hql)⟩
   · exact ⟨_, _, _, _, rfl, Lib.hid (DqBox.set (HK _ hB) hq o1 o2 o3 p12 p13 p23 hql)⟩
  case rest =>
   clear hB hA HQA k4 k5 k6 lt1 lt3 HC HK
   obtain ⟨q, u1, u2, u3, rfl, HQ⟩ := hcut
   obtain ⟨ma1, na1, ca1, rfl⟩ := HQ.out.o1.named
   obtain ⟨ma2, na2, ca2, rfl⟩ := HQ.out.o2.named
   obtain ⟨ma3, na3, ca3, rfl⟩ := HQ.out.o3.named
   clear HB
   have q0 : wc.cell? ⟨w.heap.size + 1, 0, none⟩ = some (.int .i64 p.kind) := HQ.out.box.rb.cell 0
   have q1 : wc.cell? ⟨w.heap.size + 1, 1, none⟩ = some (.int .i64 p.idx) := HQ.out.box.rb.cell 1
   by_cases hk : p.kind = 2
   · obtain ⟨hp1, hp2⟩ := hp.out hk
     obtain ⟨f, hf⟩ : ∃ f, C.feas[p.idx.toNat]? = some f := ⟨_, List.getElem?_eq_getElem (by omega)⟩
     have HPF : Hid (polOf C p.idx = f.pol) := Lib.hid (by unfold polOf; rw [hf])
     obtain ⟨ad, ha, hr⟩ := (hI.out.fea.below HQ.out.box.bel) p.idx.toNat f.cells (by rw [List.getElem?_map, hf]; rfl)
     obtain ⟨a0, a1, a2, a3, a4, a5, a6, a7, a8⟩ := RowIs.nine hr
     have plt := hr.lt rfl
     have hn2 : p.idx < (n2 : Int) := by rw [hI.out.e2]; exact hp2
     clear hr hf hp2
     subst ha
     have t0 : (p.kind != 2) = false := by simp [hk]
     have x2 := HQ.out.box.box.cell 2
     have HK2 := Lib.hid hk
     clear hk
     by_cases h3 : f.pol = 3
     · have t1 : (f.pol == 3) = true := by simp [h3]
       have H3 := Lib.hid h3
       clear h3
       have l5 : wc.cell? ⟨q, 5, none⟩ = some (.slice ma2 na2 ca2) := HQ.out.qb.cell 5
       have HN1 : Hid ((Value.ownBlock (.slice ma2 na2 ca2)) ≠ some wc.heap.size) := Lib.hid (fun e => by have := (HQ.out.o2.block _ e).2; omega)
       have HN2 : Hid (w.heap.size + 1 + 1 + 1 ≤ (wc.alloc (.cells #[.int .i64 p.idx] 3)).heap.size) := Lib.hid (by have := HQ.out.ql; have := HQ.out.qb.lt; simp; omega)
       go_upto_region 8 with (first | (go_at_call 141; with_reducible refine (ins_c p.idx _ _ wc.heap.size om _ (HQ.out.o2.alloc _) (Blk.new _ _ _) HN1.out lo.out HN2.out).mono ?_; rintro e w5 ⟨s', rfl, hp⟩; have QB := Lib.hid ((HQ.out.qb.alloc (.cells #[.int .i64 p.idx] 3)).grown hp.gr ((HQ.out.o2.alloc (.cells #[.int .i64 p.idx] 3)).ne_blk (HQ.out.qb.alloc _) (by decide))); obtain ⟨ma, na, ca, rfl⟩ := hp.own.named; have HP := Lib.hid hp; clear hp l5; have l5 := QB.out.cell 5; have fq := QB.out.frozen 5))
       have HF : Hid (DqFin w (w5.setCell ⟨q, 5, none⟩ (.slice ma na ca)) q (.slice ma1 na1 ca1) (.slice ma na ca) (.slice ma3 na3 ca3) CU OU im) := Lib.hid (by rw [← ECU.out, ← EOU.out, HPF.out, if_neg (fun h => h.2 H3.out), if_pos ⟨HK2.out, H3.out⟩]; exact HQ.out.ins2 HP.out)
       clear QB HP l5 fq HN1 HN2
       generalize (w5.setCell ⟨q, 5, none⟩ (.slice ma na ca)) = W8 at *
       have l0 : W8.cell? ⟨q, 0, none⟩ = some (.int .i64 0) := HF.out.qb.cell 0
       have l1 : W8.cell? ⟨q, 1, none⟩ = some (.int .i64 0) := HF.out.qb.cell 1
       have l2 : W8.cell? ⟨q, 2, none⟩ = some (.int .i64 0) := HF.out.qb.cell 2
       have l3 : W8.cell? ⟨q, 3, none⟩ = some (.string ⟨#[]⟩) := HF.out.qb.cell 3
       have l4 := HF.out.qb.cell 4
       have l5 := HF.out.qb.cell 5
       have l6 := HF.out.qb.cell 6
       simp only [List.getElem?_toArray, List.getElem?_cons_succ, List.getElem?_cons_zero] at l4 l5 l6
       have z0 := HF.out.res.frozen 0
       have z1 := HF.out.res.frozen 1
       have z2 := HF.out.res.frozen 2
       have z3 := HF.out.res.frozen 3
       have z4 := HF.out.res.frozen 4
       have z5 := HF.out.res.frozen 5
       have z6 := HF.out.res.frozen 6
       have y0 : W8.cell? ⟨w.heap.size + 1 + 1, 0, none⟩ = some (.int .i64 0) := HF.out.res.cell 0
       have y1 : W8.cell? ⟨w.heap.size + 1 + 1, 1, none⟩ = some (.int .i64 0) := HF.out.res.cell 1
       have y2 : W8.cell? ⟨w.heap.size + 1 + 1, 2, none⟩ = some (.int .i64 0) := HF.out.res.cell 2
       have y3 : W8.cell? ⟨w.heap.size + 1 + 1, 3, none⟩ = some (.string ⟨#[]⟩) := HF.out.res.cell 3
       have y4 : W8.cell? ⟨w.heap.size + 1 + 1, 4, none⟩ = some (.slice none 0 0) := HF.out.res.cell 4
       have y5 : W8.cell? ⟨w.heap.size + 1 + 1, 5, none⟩ = some (.slice none 0 0) := HF.out.res.cell 5
       have y6 : W8.cell? ⟨w.heap.size + 1 + 1, 6, none⟩ = some (.slice none 0 0) := HF.out.res.cell 6
       go_wp2_with fail
       have G := ((((((gs_set W8 (w.heap.size + 1 + 1) 0 (.int .i64 0)).trans (gs_set _ _ 1 (.int .i64 0))).trans (gs_set _ _ 2 (.int .i64 0))).trans (gs_set _ _ 3 (.string ⟨#[]⟩))).trans (gs_set _ _ 4 (.slice ma1 na1 ca1))).trans (gs_set _ _ 5 (.slice ma na ca))).trans (gs_set _ _ 6 (.slice ma3 na3 ca3))
       refine bodyPost_ret (results_cell_row rfl _ _ (w.heap.size + 1 + 1) 117 #[.int .i64 0, .int .i64 0, .int .i64 0, .string ⟨#[]⟩, .slice ma1 na1 ca1, .slice ma na ca, .slice ma3 na3 ca3] (0, 0) _ rfl (((((((HF.out.res.put 0 _ rfl).put 1 _ rfl).put 2 _ rfl).put 3 _ rfl).put 4 _ rfl).put 5 _ rfl).put 6 _ rfl) Tryz.underlying117 rfl (by kernel_rfl)) rfl ?_
       have ok : ∀ {v : Value} {xs : List Int}, Own W8 (w.heap.size + 1 + 1 + 1) 3 1 v (intRows xs) → v.ownBlock = none ∨ v.ownBlock ≠ some (w.heap.size + 1 + 1) := fun h => .inr fun e => by have := (h.block _ e).1; omega
       have l3 : w.heap.size ≤ w.heap.size + 1 + 1 + 1 := by omega
       exact ⟨_, _, _, rfl, ⟨(HF.out.o1.kept G (ok HF.out.o1)).less l3, (HF.out.o2.kept G (ok HF.out.o2)).less l3, (HF.out.o3.kept G (ok HF.out.o3)).less l3⟩, HF.out.bel.grown G HF.out.bel.size (fun k e => by cases e; omega)⟩
     · have t1 : (f.pol == 3) = false := by simp [h3]
       have H3 := Lib.hid h3
       clear h3
       have l5 : wc.cell? ⟨q, 4, none⟩ = some (.slice ma1 na1 ca1) := HQ.out.qb.cell 4
       have HN1 : Hid ((Value.ownBlock (.slice ma1 na1 ca1)) ≠ some wc.heap.size) := Lib.hid (fun e => by have := (HQ.out.o1.block _ e).2; omega)
       have HN2 : Hid (w.heap.size + 1 + 1 + 1 ≤ (wc.alloc (.cells #[.int .i64 p.idx] 3)).heap.size) := Lib.hid (by have := HQ.out.ql; have := HQ.out.qb.lt; simp; omega)
       go_upto_region 8 with (first | (go_at_call 141; with_reducible refine (ins_c p.idx _ _ wc.heap.size cm _ (HQ.out.o1.alloc _) (Blk.new _ _ _) HN1.out lc.out HN2.out).mono ?_; rintro e w5 ⟨s', rfl, hp⟩; have QB := Lib.hid ((HQ.out.qb.alloc (.cells #[.int .i64 p.idx] 3)).grown hp.gr ((HQ.out.o1.alloc (.cells #[.int .i64 p.idx] 3)).ne_blk (HQ.out.qb.alloc _) (by decide))); obtain ⟨ma, na, ca, rfl⟩ := hp.own.named; have HP := Lib.hid hp; clear hp l5; have l5 := QB.out.cell 4; have fq := QB.out.frozen 4))
       have HF : Hid (DqFin w (w5.setCell ⟨q, 4, none⟩ (.slice ma na ca)) q (.slice ma na ca) (.slice ma2 na2 ca2) (.slice ma3 na3 ca3) CU OU im) := Lib.hid (by rw [← ECU.out, ← EOU.out, HPF.out, if_pos ⟨HK2.out, H3.out⟩, if_neg (fun h => H3.out h.2)]; exact HQ.out.ins1 HP.out)
       clear QB HP l5 fq HN1 HN2
       generalize (w5.setCell ⟨q, 4, none⟩ (.slice ma na ca)) = W8 at *
       have l0 : W8.cell? ⟨q, 0, none⟩ = some (.int .i64 0) := HF.out.qb.cell 0
       have l1 : W8.cell? ⟨q, 1, none⟩ = some (.int .i64 0) := HF.out.qb.cell 1
       have l2 : W8.cell? ⟨q, 2, none⟩ = some (.int .i64 0) := HF.out.qb.cell 2
       have l3 : W8.cell? ⟨q, 3, none⟩ = some (.string ⟨#[]⟩) := HF.out.qb.cell 3
       have l4 := HF.out.qb.cell 4
       have l5 := HF.out.qb.cell 5
       have l6 := HF.out.qb.cell 6
       simp only [List.getElem?_toArray, List.getElem?_cons_succ, List.getElem?_cons_zero] at l4 l5 l6
       have z0 := HF.out.res.frozen 0
       have z1 := HF.out.res.frozen 1
       have z2 := HF.out.res.frozen 2
       have z3 := HF.out.res.frozen 3
       have z4 := HF.out.res.frozen 4
       have z5 := HF.out.res.frozen 5
       have z6 := HF.out.res.frozen 6
       have y0 : W8.cell? ⟨w.heap.size + 1 + 1, 0, none⟩ = some (.int .i64 0) := HF.out.res.cell 0
       have y1 : W8.cell? ⟨w.heap.size + 1 + 1, 1, none⟩ = some (.int .i64 0) := HF.out.res.cell 1
       have y2 : W8.cell? ⟨w.heap.size + 1 + 1, 2, none⟩ = some (.int .i64 0) := HF.out.res.cell 2
       have y3 : W8.cell? ⟨w.heap.size + 1 + 1, 3, none⟩ = some (.string ⟨#[]⟩) := HF.out.res.cell 3
       have y4 : W8.cell? ⟨w.heap.size + 1 + 1, 4, none⟩ = some (.slice none 0 0) := HF.out.res.cell 4
       have y5 : W8.cell? ⟨w.heap.size + 1 + 1, 5, none⟩ = some (.slice none 0 0) := HF.out.res.cell 5
       have y6 : W8.cell? ⟨w.heap.size + 1 + 1, 6, none⟩ = some (.slice none 0 0) := HF.out.res.cell 6
       go_wp2_with fail
       have G := ((((((gs_set W8 (w.heap.size + 1 + 1) 0 (.int .i64 0)).trans (gs_set _ _ 1 (.int .i64 0))).trans (gs_set _ _ 2 (.int .i64 0))).trans (gs_set _ _ 3 (.string ⟨#[]⟩))).trans (gs_set _ _ 4 (.slice ma na ca))).trans (gs_set _ _ 5 (.slice ma2 na2 ca2))).trans (gs_set _ _ 6 (.slice ma3 na3 ca3))
       refine bodyPost_ret (results_cell_row rfl _ _ (w.heap.size + 1 + 1) 117 #[.int .i64 0, .int .i64 0, .int .i64 0, .string ⟨#[]⟩, .slice ma na ca, .slice ma2 na2 ca2, .slice ma3 na3 ca3] (0, 0) _ rfl (((((((HF.out.res.put 0 _ rfl).put 1 _ rfl).put 2 _ rfl).put 3 _ rfl).put 4 _ rfl).put 5 _ rfl).put 6 _ rfl) Tryz.underlying117 rfl (by kernel_rfl)) rfl ?_
       have ok : ∀ {v : Value} {xs : List Int}, Own W8 (w.heap.size + 1 + 1 + 1) 3 1 v (intRows xs) → v.ownBlock = none ∨ v.ownBlock ≠ some (w.heap.size + 1 + 1) := fun h => .inr fun e => by have := (h.block _ e).1; omega
       have l3 : w.heap.size ≤ w.heap.size + 1 + 1 + 1 := by omega
       exact ⟨_, _, _, rfl, ⟨(HF.out.o1.kept G (ok HF.out.o1)).less l3, (HF.out.o2.kept G (ok HF.out.o2)).less l3, (HF.out.o3.kept G (ok HF.out.o3)).less l3⟩, HF.out.bel.grown G HF.out.bel.size (fun k e => by cases e; omega)⟩
   · have t0 : (p.kind != 2) = true := by simp [hk]
     have HF : Hid (DqFin w wc q (.slice ma1 na1 ca1) (.slice ma2 na2 ca2) (.slice ma3 na3 ca3) CU OU im) := Lib.hid (by rw [← ECU.out, ← EOU.out, if_neg (fun h => hk h.1), if_neg (fun h => hk h.1)]; exact HQ.out.fin)
     go_upto_region 3 with fail
     have l0 : wc.cell? ⟨q, 0, none⟩ = some (.int .i64 0) := HF.out.qb.cell 0
     have l1 : wc.cell? ⟨q, 1, none⟩ = some (.int .i64 0) := HF.out.qb.cell 1
     have l2 : wc.cell? ⟨q, 2, none⟩ = some (.int .i64 0) := HF.out.qb.cell 2
     have l3 : wc.cell? ⟨q, 3, none⟩ = some (.string ⟨#[]⟩) := HF.out.qb.cell 3
     have l4 := HF.out.qb.cell 4
     have l5 := HF.out.qb.cell 5
     have l6 := HF.out.qb.cell 6
     simp only [List.getElem?_toArray, List.getElem?_cons_succ, List.getElem?_cons_zero] at l4 l5 l6
     have z0 := HF.out.res.frozen 0
     have z1 := HF.out.res.frozen 1
     have z2 := HF.out.res.frozen 2
     have z3 := HF.out.res.frozen 3
     have z4 := HF.out.res.frozen 4
     have z5 := HF.out.res.frozen 5
     have z6 := HF.out.res.frozen 6
     have y0 : wc.cell? ⟨w.heap.size + 1 + 1, 0, none⟩ = some (.int .i64 0) := HF.out.res.cell 0
     have y1 : wc.cell? ⟨w.heap.size + 1 + 1, 1, none⟩ = some (.int .i64 0) := HF.out.res.cell 1
     have y2 : wc.cell? ⟨w.heap.size + 1 + 1, 2, none⟩ = some (.int .i64 0) := HF.out.res.cell 2
     have y3 : wc.cell? ⟨w.heap.size + 1 + 1, 3, none⟩ = some (.string ⟨#[]⟩) := HF.out.res.cell 3
     have y4 : wc.cell? ⟨w.heap.size + 1 + 1, 4, none⟩ = some (.slice none 0 0) := HF.out.res.cell 4
     have y5 : wc.cell? ⟨w.heap.size + 1 + 1, 5, none⟩ = some (.slice none 0 0) := HF.out.res.cell 5
     have y6 : wc.cell? ⟨w.heap.size + 1 + 1, 6, none⟩ = some (.slice none 0 0) := HF.out.res.cell 6
     go_wp2_with fail
     have G := ((((((gs_set wc (w.heap.size + 1 + 1) 0 (.int .i64 0)).trans (gs_set _ _ 1 (.int .i64 0))).trans (gs_set _ _ 2 (.int .i64 0))).trans (gs_set _ _ 3 (.string ⟨#[]⟩))).trans (gs_set _ _ 4 (.slice ma1 na1 ca1))).trans (gs_set _ _ 5 (.slice ma2 na2 ca2))).trans (gs_set _ _ 6 (.slice ma3 na3 ca3))
     refine bodyPost_ret (results_cell_row rfl _ _ (w.heap.size + 1 + 1) 117 #[.int .i64 0, .int .i64 0, .int .i64 0, .string ⟨#[]⟩, .slice ma1 na1 ca1, .slice ma2 na2 ca2, .slice ma3 na3 ca3] (0, 0) _ rfl (((((((HF.out.res.put 0 _ rfl).put 1 _ rfl).put 2 _ rfl).put 3 _ rfl).put 4 _ rfl).put 5 _ rfl).put 6 _ rfl) Tryz.underlying117 rfl (by kernel_rfl)) rfl ?_
     have ok : ∀ {v : Value} {xs : List Int}, Own wc (w.heap.size + 1 + 1 + 1) 3 1 v (intRows xs) → v.ownBlock = none ∨ v.ownBlock ≠ some (w.heap.size + 1 + 1) := fun h => .inr fun e => by have := (h.block _ e).1; omega
     have l3 : w.heap.size ≤ w.heap.size + 1 + 1 + 1 := by omega
     exact ⟨_, _, _, rfl, ⟨(HF.out.o1.kept G (ok HF.out.o1)).less l3, (HF.out.o2.kept G (ok HF.out.o2)).less l3, (HF.out.o3.kept G (ok HF.out.o3)).less l3⟩, HF.out.bel.grown G HF.out.bel.size (fun k e => by cases e; omega)⟩
end Go.Proofs.YtdgaflcnigljlaaGreatDoor
