/-
  Contracts and plain facts for the laws on the whole program: the parts below say each what they are. No further condition.
-/
import Derived.Test.YtdgaflcnigljlaaGreatDoorS19
import Derived.Deep.RegionHeld3
import Derived.Deep.AppendLies
import Derived.Deep.RegionLaw
set_option linter.unusedSimpArgs false
/-
  Contracts of package occurrence: what is done with a feast, by its policy. No further condition.
-/
namespace Go.Proofs.YtdgaflcnigljlaaGreatDoor
open Go.RowKit Go.Proofs Go.MapKept Go.Proofs.YtdgaflcnigljlaaGreatDoorW.PrintWords
set_option linter.unusedVariables false
theorem Own.ne_blk {W : World} {b : Nat} {e t : TypeId} {sz g : Nat} {v : Value} {R : List (Array Value)} {cs : Array Value} (h : Own W b e sz v R) (hb : Blk W g cs t) (hne : e ≠ t) : v.ownBlock ≠ some g := by
  intro e'
  rcases h.1.2 with ⟨rfl, _⟩ | ⟨k, cap, cur, rfl, _, hk, _⟩
  · cases e'
  · have : k = g := by simpa [Value.ownBlock] using e'
    subst this
    rw [show W.heap[k]? = _ from hb] at hk
    simp at hk
    exact hne hk.2.symm
theorem Blk.grown {W W' : World} {g : Nat} {cs : Array Value} {t : TypeId} {row : Option Nat} (h : Blk W g cs t) (hg : W.grownBy W' row) (hne : row ≠ some g) : Blk W' g cs t := blk_grown h hg (fun e => hne e.symm)
/-- Behind a feast's treatment: the row's block and the result's block alone have turned. -/
structure PolPost (w : World) (R base : Nat) (v : Value) (xs : List Int) (w' : World) (v1 : Value) (w1 : World) : Prop where
  own : Own w' base 3 1 v1 (intRows xs)
  g1 : w.grownBy w1 v.ownBlock
  g2 : w1.grownBy w' (some R)
  at_ : v1.ownBlock = v.ownBlock ∨ ∃ b, v1.ownBlock = some b ∧ w.heap.size ≤ b
theorem intRows_flat (xs : List Int) : (intRows xs).flatMap Array.toList = xs.map (Value.int .i64) := by
  induction xs with
  | nil => rfl
  | cons x xs ih =>
    simp only [intRows, List.map_cons, List.flatMap_cons] at ih ⊢
    rw [ih]; rfl
theorem Own.flat {w : World} {base : Nat} {v : Value} {xs : List Int} (h : Own w base 3 1 v (intRows xs)) : w.ownsRow base 3 1 v xs.length (xs.map (Value.int .i64)) := by
  have := h.1
  rw [intRows_flat] at this
  simpa [intRows] using this
theorem Own.of_flat {w : World} {base : Nat} {v : Value} {xs : List Int} (h : w.ownsRow base 3 1 v xs.length (xs.map (Value.int .i64))) : Own w base 3 1 v (intRows xs) :=
  ⟨by rw [intRows_flat]; simpa [intRows] using h, fun r hr => by obtain ⟨x, _, rfl⟩ := List.mem_map.1 hr; rfl⟩
theorem pol_fin {w w1 : World} {R base gg cap : Nat} {v : Value} {xs : List Int} {i : Int} {f : Nat} {o : Obj} (HG : ((w.alloc o).drew).grownBy w1 v.ownBlock)
    (HW : w1.ownsRow base 3 1 (.slice (some ⟨gg, 0, none⟩) (xs.length + 1) cap) (xs.length + 1) (xs.map (Value.int .i64) ++ [.int .i64 i])) (HT : v.ownBlock = some gg ∨ gg = w.heap.size + 1) (hR : R < w.heap.size) (hne : v.ownBlock ≠ some R) :
    PolPost w R base v (xs ++ [i]) (w1.setCell ⟨R, f, none⟩ (.slice (some ⟨gg, 0, none⟩) (xs.length + 1) cap)) (.slice (some ⟨gg, 0, none⟩) (xs.length + 1) cap) w1 := by
  have ho : Own w1 base 3 1 (.slice (some ⟨gg, 0, none⟩) (xs.length + 1) cap) (intRows (xs ++ [i])) := Own.of_flat (by simpa using HW)
  have hs : w1.grownBy (w1.setCell ⟨R, f, none⟩ (.slice (some ⟨gg, 0, none⟩) (xs.length + 1) cap)) (some R) := ⟨rfl, rfl, rfl, (KeepsWalks.setCell w1 _ _).size, fun k _ hk => Below.heap_setCell _ _ _ k (fun e => hk (by rw [e]))⟩
  refine ⟨ho.kept hs (.inr fun e => ?_), World.grownBy.trans (World.grownBy_alloc w o _) ⟨HG.1, HG.2, HG.3, HG.4, HG.5⟩, hs, ?_⟩
  · have : gg = R := by simpa [Value.ownBlock] using e
    rcases HT with t | t
    · exact hne (by rw [t, this])
    · omega
  · rcases HT with t | t
    · exact .inl (by rw [t]; rfl)
    · exact .inr ⟨gg, rfl, by omega⟩
set_option maxRecDepth 100000 in
set_option maxHeartbeats 2000000 in
theorem pol1_c (i : Int) (Bp R base : Nat) (a b c d vc vo vi : Value) (xs : List Int) (w : World) (hP : Hid (Blk w Bp #[.pointer (some ⟨R, 0, none⟩)] 148)) (hR : Hid (Blk w R #[a, b, c, d, vc, vo, vi] 117)) (hO : Hid (Own w base 3 1 vc (intRows xs))) (hb : base ≤ w.heap.size) (hx : xs.length ≤ 1000) :
    Calls Tryz.prog 130 #[.int .i64 i, .pointer (some ⟨Bp, 0, none⟩)] w fun e w' => e = .returned (.tuple #[]) ∧ ∃ v1 w1, PolPost w R base vc (xs ++ [i]) w' v1 w1 ∧ Blk w' R #[a, b, c, d, v1, vo, vi] 117 := by
  obtain ⟨i0, hi0, hz0, hz1, hz2⟩ := info_parts info3
  have c0 := hP.out.c1.1
  have cR := hR.out.cell 4
  have fR := hR.out.frozen 4
  have l0 := hP.out.lt
  have l1 := hR.out.lt
  have cR' : w.cell? ⟨R, 4, none⟩ = some vc := cR
  clear cR
  have n1 := hO.out.ne_blk hP.out (by decide)
  have n2 := hO.out.ne_blk hR.out (by decide)
  have N1 := Lib.hid n1
  have N2 := Lib.hid n2
  clear n1 n2
  have hne : R ≠ Bp := fun e => by
    have h1 := hP.out
    have h2 := hR.out
    rw [e] at h2
    unfold Blk at h1 h2
    rw [h1] at h2
    simp at h2
  have HF := Lib.hid hO.out.flat
  go_enter Tryz.func130, Tryz.ntmps130
  go_wp2_with fail
  go_region_law ((refine step_append_lies _ (by rfl) _ _ _ (by rfl) base 3 i0 _ 1 8 Tryz.underlying36 hi0 hz0 hz1 hz2 rfl (by omega) vc xs.length _ (by rfl) ((HF.out.alloc _).drew) ⟨w.heap.size, 0, none⟩ 1 1 [.int .i64 i] (by rfl) (by rfl) (World.news_of_block (cs := #[.int .i64 i]) (t := 3) (fr := (0, 0)) (heap_alloc_new w _)) (by simp [Value.oneCell']) (by omega) (by simp only [maxLen]; omega) (by omega) (by simp; omega) (w.heap.size + 1) (by simp) ?_; intro gg cap w1 hown1 hgrow hat hlt; have HG := Lib.hid hgrow; have HW := Lib.hid hown1; have HT := Lib.hid hat; have R1 := Lib.hid (Blk.grown ((hR.out.alloc (.cells #[.int .i64 i] 3)).drew) hgrow N2.out); have P1 := Lib.hid (Blk.grown ((hP.out.alloc (.cells #[.int .i64 i] 3)).drew) hgrow N1.out); have e0 := P1.out.c1.1; have eR : w1.cell? ⟨R, 4, none⟩ = some vc := R1.out.cell 4; have gR := R1.out.frozen 4; clear hgrow hown1 hat))
  all_goals
    go_end0
    exact ⟨rfl, _, w1, pol_fin HG.out HW.out HT.out l1 N2.out, R1.out.put 4 _ rfl⟩
set_option maxRecDepth 100000 in
set_option maxHeartbeats 2000000 in
theorem pol2_c (i : Int) (Bp R base : Nat) (a b c d vc vo vi : Value) (xs : List Int) (w : World) (hP : Hid (Blk w Bp #[.pointer (some ⟨R, 0, none⟩)] 148)) (hR : Hid (Blk w R #[a, b, c, d, vc, vo, vi] 117)) (hO : Hid (Own w base 3 1 vo (intRows xs))) (hb : base ≤ w.heap.size) (hx : xs.length ≤ 1000) :
    Calls Tryz.prog 131 #[.int .i64 i, .pointer (some ⟨Bp, 0, none⟩)] w fun e w' => e = .returned (.tuple #[]) ∧ ∃ v1 w1, PolPost w R base vo (xs ++ [i]) w' v1 w1 ∧ Blk w' R #[a, b, c, d, vc, v1, vi] 117 := by
  obtain ⟨i0, hi0, hz0, hz1, hz2⟩ := info_parts info3
  have c0 := hP.out.c1.1
  have cR := hR.out.cell 5
  have fR := hR.out.frozen 5
  have l0 := hP.out.lt
  have l1 := hR.out.lt
  have cR' : w.cell? ⟨R, 5, none⟩ = some vo := cR
  clear cR
  have n1 := hO.out.ne_blk hP.out (by decide)
  have n2 := hO.out.ne_blk hR.out (by decide)
  have N1 := Lib.hid n1
  have N2 := Lib.hid n2
  clear n1 n2
  have hne : R ≠ Bp := fun e => by
    have h1 := hP.out
    have h2 := hR.out
    rw [e] at h2
    unfold Blk at h1 h2
    rw [h1] at h2
    simp at h2
  have HF := Lib.hid hO.out.flat
  go_enter Tryz.func131, Tryz.ntmps131
  go_wp2_with fail
  go_region_law ((refine step_append_lies _ (by rfl) _ _ _ (by rfl) base 3 i0 _ 1 8 Tryz.underlying36 hi0 hz0 hz1 hz2 rfl (by omega) vo xs.length _ (by rfl) ((HF.out.alloc _).drew) ⟨w.heap.size, 0, none⟩ 1 1 [.int .i64 i] (by rfl) (by rfl) (World.news_of_block (cs := #[.int .i64 i]) (t := 3) (fr := (0, 0)) (heap_alloc_new w _)) (by simp [Value.oneCell']) (by omega) (by simp only [maxLen]; omega) (by omega) (by simp; omega) (w.heap.size + 1) (by simp) ?_; intro gg cap w1 hown1 hgrow hat hlt; have HG := Lib.hid hgrow; have HW := Lib.hid hown1; have HT := Lib.hid hat; have R1 := Lib.hid (Blk.grown ((hR.out.alloc (.cells #[.int .i64 i] 3)).drew) hgrow N2.out); have P1 := Lib.hid (Blk.grown ((hP.out.alloc (.cells #[.int .i64 i] 3)).drew) hgrow N1.out); have e0 := P1.out.c1.1; have eR : w1.cell? ⟨R, 5, none⟩ = some vo := R1.out.cell 5; have gR := R1.out.frozen 5; clear hgrow hown1 hat))
  all_goals
    go_end0
    exact ⟨rfl, _, w1, pol_fin HG.out HW.out HT.out l1 N2.out, R1.out.put 5 _ rfl⟩
set_option maxRecDepth 100000 in
set_option maxHeartbeats 2000000 in
theorem pol3_c (i : Int) (Bp R base : Nat) (a b c d vc vo vi : Value) (xs : List Int) (w : World) (hP : Hid (Blk w Bp #[.pointer (some ⟨R, 0, none⟩)] 148)) (hR : Hid (Blk w R #[a, b, c, d, vc, vo, vi] 117)) (hO : Hid (Own w base 3 1 vi (intRows xs))) (hb : base ≤ w.heap.size) (hx : xs.length ≤ 1000) :
    Calls Tryz.prog 132 #[.int .i64 i, .pointer (some ⟨Bp, 0, none⟩)] w fun e w' => e = .returned (.tuple #[]) ∧ ∃ v1 w1, PolPost w R base vi (xs ++ [i]) w' v1 w1 ∧ Blk w' R #[a, b, c, d, vc, vo, v1] 117 := by
  obtain ⟨i0, hi0, hz0, hz1, hz2⟩ := info_parts info3
  have c0 := hP.out.c1.1
  have cR := hR.out.cell 6
  have fR := hR.out.frozen 6
  have l0 := hP.out.lt
  have l1 := hR.out.lt
  have cR' : w.cell? ⟨R, 6, none⟩ = some vi := cR
  clear cR
  have n1 := hO.out.ne_blk hP.out (by decide)
  have n2 := hO.out.ne_blk hR.out (by decide)
  have N1 := Lib.hid n1
  have N2 := Lib.hid n2
  clear n1 n2
  have hne : R ≠ Bp := fun e => by
    have h1 := hP.out
    have h2 := hR.out
    rw [e] at h2
    unfold Blk at h1 h2
    rw [h1] at h2
    simp at h2
  have HF := Lib.hid hO.out.flat
  go_enter Tryz.func132, Tryz.ntmps132
  go_wp2_with fail
  go_region_law ((refine step_append_lies _ (by rfl) _ _ _ (by rfl) base 3 i0 _ 1 8 Tryz.underlying36 hi0 hz0 hz1 hz2 rfl (by omega) vi xs.length _ (by rfl) ((HF.out.alloc _).drew) ⟨w.heap.size, 0, none⟩ 1 1 [.int .i64 i] (by rfl) (by rfl) (World.news_of_block (cs := #[.int .i64 i]) (t := 3) (fr := (0, 0)) (heap_alloc_new w _)) (by simp [Value.oneCell']) (by omega) (by simp only [maxLen]; omega) (by omega) (by simp; omega) (w.heap.size + 1) (by simp) ?_; intro gg cap w1 hown1 hgrow hat hlt; have HG := Lib.hid hgrow; have HW := Lib.hid hown1; have HT := Lib.hid hat; have R1 := Lib.hid (Blk.grown ((hR.out.alloc (.cells #[.int .i64 i] 3)).drew) hgrow N2.out); have P1 := Lib.hid (Blk.grown ((hP.out.alloc (.cells #[.int .i64 i] 3)).drew) hgrow N1.out); have e0 := P1.out.c1.1; have eR : w1.cell? ⟨R, 6, none⟩ = some vi := R1.out.cell 6; have gR := R1.out.frozen 6; clear hgrow hown1 hat))
  all_goals
    go_end0
    exact ⟨rfl, _, w1, pol_fin HG.out HW.out HT.out l1 N2.out, R1.out.put 6 _ rfl⟩
end Go.Proofs.YtdgaflcnigljlaaGreatDoor
/-
  Contracts of package occurrence: the celebrations of a day resolved. No further condition.
-/
namespace Go.Proofs.YtdgaflcnigljlaaGreatDoor
open Go.RowKit Go.Proofs Go.MapKept Go.Proofs.YtdgaflcnigljlaaGreatDoorW.PrintWords
set_option linter.unusedVariables false
def pfn (f Bp : Nat) : Value := .func (.func f) #[] #[.pointer (some ⟨Bp, 0, none⟩)]
def polF (Bp : Nat) (j : Int) : Option Value := if j = 1 then some (.func (.func 132) #[] #[.pointer (some ⟨Bp, 0, none⟩)]) else if j = 3 then some (.func (.func 131) #[] #[.pointer (some ⟨Bp, 0, none⟩)]) else if j = 2 then some (.func (.func 130) #[] #[.pointer (some ⟨Bp, 0, none⟩)]) else none
structure PmBox (w W : World) (R : Nat) (f : Int → Option Value) : Prop where
  bel : Below w.heap.size w W
  bp : Blk W w.heap.size #[.pointer (some ⟨R, 0, none⟩)] 148
  mp : MapIs (fun a : Int => Value.int .i64 a) W (w.heap.size + 1) f
theorem PmBox.upd {w W W2 : World} {R : Nat} {f g : Int → Option Value} (h : PmBox w W R f) (hm : MapIs (fun a : Int => Value.int .i64 a) W2 (w.heap.size + 1) g) (hg : W.grownBy W2 (some (w.heap.size + 1))) : PmBox w W2 R g :=
  ⟨h.bel.grown hg h.bel.size (fun k e => by cases e; exact Nat.le_succ _), blk_grown h.bp hg (by simp), hm⟩
set_option maxHeartbeats 400000 in
theorem policies_c (R : Nat) (w : World) : Calls Tryz.prog 92 #[.pointer (some ⟨R, 0, none⟩)] w fun e w' => e = .returned (.map (some (w.heap.size + 1))) ∧ PmBox w w' R (polF w.heap.size) := by
  have hmm := @run_makeMap Tryz.prog
  have HM : Hid (PmBox w ((w.alloc (.cells #[.pointer (some ⟨R, 0, none⟩)] 148)).alloc (.map #[] 0)) R (fun _ => none)) := Lib.hid ⟨((Below.refl _ _).alloc (Nat.le_refl _) _).alloc (by simp) _, (Blk.new _ _ _).alloc _, by
    have := MapIs.made (inj := fun a : Int => Value.int .i64 a) (w.alloc (.cells #[.pointer (some ⟨R, 0, none⟩)] 148))
    rw [World.size_alloc] at this
    exact this⟩
  go_enter Tryz.func92, Tryz.ntmps92
  go_wp2_with (first | (with_reducible refine wpl_insert 146 rfl rfl KI Tryz.underlying146 rfl HM.out.mp _ _ rfl rfl ?_; intro w1 hm hg1 hs1; replace HM := Lib.hid (HM.out.upd hm hg1); clear hm hg1 hs1))
  go_ret
  exact ⟨rfl, HM.out⟩
theorem polF_1 (B : Nat) : polF B 1 = some (.func (.func 132) #[] #[.pointer (some ⟨B, 0, none⟩)]) := rfl
theorem polF_2 (B : Nat) : polF B 2 = some (.func (.func 130) #[] #[.pointer (some ⟨B, 0, none⟩)]) := rfl
theorem polF_3 (B : Nat) : polF B 3 = some (.func (.func 131) #[] #[.pointer (some ⟨B, 0, none⟩)]) := rfl
theorem Own.ne_map {W : World} {b : Nat} {e : TypeId} {sz g : Nat} {v : Value} {R : List (Array Value)} {f : Int → Option Value} (h : Own W b e sz v R) (hb : MapIs (fun a : Int => Value.int .i64 a) W g f) : v.ownBlock ≠ some g := by
  intro e'
  obtain ⟨es, cl, l, hm, _⟩ := hb
  rcases h.1.2 with ⟨rfl, _⟩ | ⟨k, cap, cur, rfl, _, hk, _⟩
  · cases e'
  · have : k = g := by simpa [Value.ownBlock] using e'
    subst this
    rw [hm] at hk
    cases hk
/-- What Resolve keeps. -/
structure RvBox (w W : World) (C : Cat) (A1 : Option Addr) (n1 c1 : Nat) (A2 : Option Addr) (n2 c2 : Nat) (Bp Mp g cap n : Nat) (L : List Cand) (p : Cand) (cm om im : List Int) (vc vo vi : Value) : Prop where
  bel : Below w.heap.size w W
  box : Blk W w.heap.size #[.int .i64 C.free, .slice A1 n1 c1, .slice A2 n2 c2] 25
  res : Blk W (w.heap.size + 1) #[.int .i64 0, .int .i64 0, .int .i64 0, .string ⟨#[]⟩, .slice none 0 0, .slice none 0 0, .slice none 0 0] 117
  r : Blk W (w.heap.size + 1 + 1) #[.int .i64 p.kind, .int .i64 p.idx, .int .i64 p.rank, .string p.id, vc, vo, vi] 117
  bp : Blk W Bp #[.pointer (some ⟨w.heap.size + 1 + 1, 0, none⟩)] 148
  mp : MapIs (fun a : Int => Value.int .i64 a) W Mp (polF Bp)
  row : Own W w.heap.size 115 4 (.slice (some ⟨g, 0, none⟩) n cap) (candRows L)
  oc : Own W (w.heap.size + 1 + 1 + 1) 3 1 vc (intRows cm)
  oo : Own W (w.heap.size + 1 + 1 + 1) 3 1 vo (intRows om)
  oi : Own W (w.heap.size + 1 + 1 + 1) 3 1 vi (intRows im)
  a1 : ∀ b, vc.ownBlock = some b → vo.ownBlock ≠ some b
  a2 : ∀ b, vc.ownBlock = some b → vi.ownBlock ≠ some b
  a3 : ∀ b, vo.ownBlock = some b → vi.ownBlock ≠ some b
section
variable {w W W2 w1 : World} {C : Cat} {A1 A2 : Option Addr} {n1 c1 n2 c2 Bp Mp g cap n : Nat} {L : List Cand} {p : Cand} {cm om im : List Int} {vc vo vi v1 : Value}
theorem RvBox.below (h : RvBox w W C A1 n1 c1 A2 n2 c2 Bp Mp g cap n L p cm om im vc vo vi) (hb : Below W.heap.size W W2) : RvBox w W2 C A1 n1 c1 A2 n2 c2 Bp Mp g cap n L p cm om im vc vo vi :=
  ⟨below_then h.bel h.bel.size hb, h.box.below hb, h.res.below hb, h.r.below hb, h.bp.below hb, h.mp.below hb, h.row.below hb, h.oc.below hb, h.oo.below hb, h.oi.below hb, h.a1, h.a2, h.a3⟩
theorem PolPost.blk {R base : Nat} {v : Value} {xs xs0 : List Int} (h : PolPost W R base v xs W2 v1 w1) (ho : Own W base 3 1 v (intRows xs0)) {k : Nat} {cs : Array Value} {t : TypeId} (hb : Blk W k cs t) (hne : 3 ≠ t) (hk : k ≠ R) : Blk W2 k cs t :=
  (hb.grown h.g1 (ho.ne_blk hb hne)).grown h.g2 (fun e => hk (by cases e; rfl))
theorem PolPost.oth {R base : Nat} {v u : Value} {xs : List Int} (h : PolPost W R base v xs W2 v1 w1) {b : Nat} {e : TypeId} {sz : Nat} {rows : List (Array Value)} (hu : Own W b e sz u rows) (hn : u.ownBlock ≠ some R) (ha : ∀ b, u.ownBlock = some b → v.ownBlock ≠ some b) : Own W2 b e sz u rows := by
  refine (hu.kept h.g1 ?_).kept h.g2 (.inr hn)
  cases e' : u.ownBlock with
  | none => exact .inl rfl
  | some b => exact .inr fun e2 => ha b e' e2.symm
theorem PolPost.bel {R base : Nat} {v : Value} {xs xs0 : List Int} (h : PolPost W R base v xs W2 v1 w1) (ho : Own W base 3 1 v (intRows xs0)) (hb : Below w.heap.size w W) (h1 : w.heap.size ≤ R) (h2 : w.heap.size ≤ base) : Below w.heap.size w W2 :=
  (hb.grown h.g1 hb.size (fun k e => by have := (ho.block k e).1; omega)).grown h.g2 (Nat.le_trans hb.size h.g1.size) (fun k e => by cases e; exact h1)
theorem PolPost.new_apart {R base : Nat} {v u : Value} {xs : List Int} (h : PolPost W R base v xs W2 v1 w1) {rows : List (Array Value)} {b e sz : Nat} (hu : Own W b e sz u rows) (ha : ∀ b, v.ownBlock = some b → u.ownBlock ≠ some b) : ∀ b, v1.ownBlock = some b → u.ownBlock ≠ some b := by
  intro b hb hb'
  rcases h.at_ with t | ⟨b', t, hle⟩
  · rw [t] at hb; exact ha b hb hb'
  · rw [t] at hb; cases hb; have := (hu.block _ hb').2; omega
theorem RvBox.pol1 (h : RvBox w W C A1 n1 c1 A2 n2 c2 Bp Mp g cap n L p cm om im vc vo vi) {i : Int} (hp : PolPost W (w.heap.size + 1 + 1) (w.heap.size + 1 + 1 + 1) vc (cm ++ [i]) W2 v1 w1) (hr : Blk W2 (w.heap.size + 1 + 1) #[.int .i64 p.kind, .int .i64 p.idx, .int .i64 p.rank, .string p.id, v1, vo, vi] 117) :
    RvBox w W2 C A1 n1 c1 A2 n2 c2 Bp Mp g cap n L p (cm ++ [i]) om im v1 vo vi := by
  have nR : ∀ {u : Value} {xs : List Int}, Own W (w.heap.size + 1 + 1 + 1) 3 1 u (intRows xs) → u.ownBlock ≠ some (w.heap.size + 1 + 1) := fun hu => hu.ne_blk h.r (by decide)
  have hbp : Bp ≠ w.heap.size + 1 + 1 := fun e => by
    have h1 := h.bp
    have h2 := h.r
    rw [e] at h1
    unfold Blk at h1 h2
    rw [h1] at h2
    simp at h2
  have hmp : some Mp ≠ some (w.heap.size + 1 + 1) := fun e => by
    cases e
    obtain ⟨es, cl, l, hm, _⟩ := h.mp
    have h2 := h.r
    unfold Blk at h2
    rw [hm] at h2; cases h2
  have ap : ∀ {u : Value} {xs : List Int}, Own W (w.heap.size + 1 + 1 + 1) 3 1 u (intRows xs) → ∀ b, (Value.slice (some ⟨g, 0, none⟩) n cap).ownBlock = some b → u.ownBlock ≠ some b := fun hu b hb hb' => by
    rcases h.row.apart_ty hu (by decide) with t | t
    · rw [t] at hb; cases hb
    · exact t (hb.trans hb'.symm)
  refine ⟨hp.bel h.oc h.bel (by omega) (by omega), hp.blk h.oc h.box (by decide) (by omega), hp.blk h.oc h.res (by decide) (by omega), hr, hp.blk h.oc h.bp (by decide) hbp,
    (h.mp.grown hp.g1 (fun e => h.oc.ne_map h.mp e.symm)).grown hp.g2 hmp, hp.oth h.row (h.row.ne_blk h.r (by decide)) (ap h.oc), hp.own, hp.oth h.oo (nR h.oo) (fun b hb hb' => h.a1 b hb' hb), hp.oth h.oi (nR h.oi) (fun b hb hb' => h.a2 b hb' hb), hp.new_apart h.oo h.a1, hp.new_apart h.oi h.a2, h.a3⟩
theorem RvBox.pol2 (h : RvBox w W C A1 n1 c1 A2 n2 c2 Bp Mp g cap n L p cm om im vc vo vi) {i : Int} (hp : PolPost W (w.heap.size + 1 + 1) (w.heap.size + 1 + 1 + 1) vo (om ++ [i]) W2 v1 w1) (hr : Blk W2 (w.heap.size + 1 + 1) #[.int .i64 p.kind, .int .i64 p.idx, .int .i64 p.rank, .string p.id, vc, v1, vi] 117) :
    RvBox w W2 C A1 n1 c1 A2 n2 c2 Bp Mp g cap n L p cm (om ++ [i]) im vc v1 vi := by
  have nR : ∀ {u : Value} {xs : List Int}, Own W (w.heap.size + 1 + 1 + 1) 3 1 u (intRows xs) → u.ownBlock ≠ some (w.heap.size + 1 + 1) := fun hu => hu.ne_blk h.r (by decide)
  have hbp : Bp ≠ w.heap.size + 1 + 1 := fun e => by
    have h1 := h.bp
    have h2 := h.r
    rw [e] at h1
    unfold Blk at h1 h2
    rw [h1] at h2
    simp at h2
  have hmp : some Mp ≠ some (w.heap.size + 1 + 1) := fun e => by
    cases e
    obtain ⟨es, cl, l, hm, _⟩ := h.mp
    have h2 := h.r
    unfold Blk at h2
    rw [hm] at h2; cases h2
  have ap : ∀ {u : Value} {xs : List Int}, Own W (w.heap.size + 1 + 1 + 1) 3 1 u (intRows xs) → ∀ b, (Value.slice (some ⟨g, 0, none⟩) n cap).ownBlock = some b → u.ownBlock ≠ some b := fun hu b hb hb' => by
    rcases h.row.apart_ty hu (by decide) with t | t
    · rw [t] at hb; cases hb
    · exact t (hb.trans hb'.symm)
  refine ⟨hp.bel h.oo h.bel (by omega) (by omega), hp.blk h.oo h.box (by decide) (by omega), hp.blk h.oo h.res (by decide) (by omega), hr, hp.blk h.oo h.bp (by decide) hbp,
    (h.mp.grown hp.g1 (fun e => h.oo.ne_map h.mp e.symm)).grown hp.g2 hmp, hp.oth h.row (h.row.ne_blk h.r (by decide)) (ap h.oo), hp.oth h.oc (nR h.oc) h.a1, hp.own, hp.oth h.oi (nR h.oi) (fun b hb hb' => h.a3 b hb' hb), fun b hb hb' => hp.new_apart h.oc (fun b hb hb' => h.a1 b hb' hb) b hb' hb, h.a2, hp.new_apart h.oi h.a3⟩
theorem RvBox.pol3 (h : RvBox w W C A1 n1 c1 A2 n2 c2 Bp Mp g cap n L p cm om im vc vo vi) {i : Int} (hp : PolPost W (w.heap.size + 1 + 1) (w.heap.size + 1 + 1 + 1) vi (im ++ [i]) W2 v1 w1) (hr : Blk W2 (w.heap.size + 1 + 1) #[.int .i64 p.kind, .int .i64 p.idx, .int .i64 p.rank, .string p.id, vc, vo, v1] 117) :
    RvBox w W2 C A1 n1 c1 A2 n2 c2 Bp Mp g cap n L p cm om (im ++ [i]) vc vo v1 := by
  have nR : ∀ {u : Value} {xs : List Int}, Own W (w.heap.size + 1 + 1 + 1) 3 1 u (intRows xs) → u.ownBlock ≠ some (w.heap.size + 1 + 1) := fun hu => hu.ne_blk h.r (by decide)
  have hbp : Bp ≠ w.heap.size + 1 + 1 := fun e => by
    have h1 := h.bp
    have h2 := h.r
    rw [e] at h1
    unfold Blk at h1 h2
    rw [h1] at h2
    simp at h2
  have hmp : some Mp ≠ some (w.heap.size + 1 + 1) := fun e => by
    cases e
    obtain ⟨es, cl, l, hm, _⟩ := h.mp
    have h2 := h.r
    unfold Blk at h2
    rw [hm] at h2; cases h2
  have ap : ∀ {u : Value} {xs : List Int}, Own W (w.heap.size + 1 + 1 + 1) 3 1 u (intRows xs) → ∀ b, (Value.slice (some ⟨g, 0, none⟩) n cap).ownBlock = some b → u.ownBlock ≠ some b := fun hu b hb hb' => by
    rcases h.row.apart_ty hu (by decide) with t | t
    · rw [t] at hb; cases hb
    · exact t (hb.trans hb'.symm)
  refine ⟨hp.bel h.oi h.bel (by omega) (by omega), hp.blk h.oi h.box (by decide) (by omega), hp.blk h.oi h.res (by decide) (by omega), hr, hp.blk h.oi h.bp (by decide) hbp,
    (h.mp.grown hp.g1 (fun e => h.oi.ne_map h.mp e.symm)).grown hp.g2 hmp, hp.oth h.row (h.row.ne_blk h.r (by decide)) (ap h.oi), hp.oth h.oc (nR h.oc) h.a2, hp.oth h.oo (nR h.oo) h.a3, hp.own, h.a1, fun b hb hb' => hp.new_apart h.oc (fun b hb hb' => h.a2 b hb' hb) b hb' hb, fun b hb hb' => hp.new_apart h.oo (fun b hb hb' => h.a3 b hb' hb) b hb' hb⟩
end
def polOf (C : Cat) (i : Int) : Int := match C.feas[i.toNat]? with
  | some f => f.pol
  | none => 0
/-- The feasts of a policy among candidates. -/
def vPol (C : Cat) (p : Int) (l : List Cand) : List Int := l.filterMap fun x => if x.kind = 2 ∧ polOf C x.idx = p then some x.idx else none
theorem vPol_snoc (C : Cat) (p : Int) (l : List Cand) (x : Cand) : vPol C p (l ++ [x]) = vPol C p l ++ if x.kind = 2 ∧ polOf C x.idx = p then [x.idx] else [] := by
  unfold vPol
  rw [List.filterMap_append]
  congr 1
  simp only [List.filterMap_cons, List.filterMap_nil]
  by_cases h : x.kind = 2 ∧ polOf C x.idx = p
  · rw [if_pos h, if_pos h]
  · rw [if_neg h, if_neg h]
theorem vPol_len (C : Cat) (p : Int) (l : List Cand) : (vPol C p l).length ≤ l.length := List.length_filterMap_le _ _
def CdOk (C : Cat) (l : List Cand) : Prop := ∀ x ∈ l, x.kind = 2 → 0 ≤ x.idx ∧ x.idx < C.feas.length
def noC : Cand := ⟨0, 0, 0, ⟨#[]⟩⟩
/-- What is known behind k rounds. -/
def RvAt (w W : World) (C : Cat) (A1 : Option Addr) (n1 c1 : Nat) (A2 : Option Addr) (n2 c2 : Nat) (Bp Mp g cap n : Nat) (L : List Cand) (k : Nat) (vc vo vi : Value) : Prop :=
  RvBox w W C A1 n1 c1 A2 n2 c2 Bp Mp g cap n L (if k = 0 then noC else F L 0) (vPol C 2 ((L.take k).drop 1)) (vPol C 3 ((L.take k).drop 1)) (vPol C 1 ((L.take k).drop 1)) vc vo vi
structure RsBox (w W : World) (C : Cat) (A1 : Option Addr) (n1 c1 : Nat) (A2 : Option Addr) (n2 c2 : Nat) : Prop where
  bel : Below w.heap.size w W
  box : Blk W w.heap.size #[.int .i64 C.free, .slice A1 n1 c1, .slice A2 n2 c2] 25
  res : Blk W (w.heap.size + 1) #[.int .i64 0, .int .i64 0, .int .i64 0, .string ⟨#[]⟩, .slice none 0 0, .slice none 0 0, .slice none 0 0] 117
  r : Blk W (w.heap.size + 1 + 1) #[.int .i64 0, .int .i64 0, .int .i64 0, .string ⟨#[]⟩, .slice none 0 0, .slice none 0 0, .slice none 0 0] 117
theorem RsBox.below {w W W2 : World} {C : Cat} {A1 A2 : Option Addr} {n1 c1 n2 c2 : Nat} (h : RsBox w W C A1 n1 c1 A2 n2 c2) (hb : Below W.heap.size W W2) : RsBox w W2 C A1 n1 c1 A2 n2 c2 := ⟨below_then h.bel h.bel.size hb, h.box.below hb, h.res.below hb, h.r.below hb⟩
theorem RsBox.start {w W : World} {C : Cat} {A1 A2 : Option Addr} {n1 c1 n2 c2 Bp Mp g cap n : Nat} {L : List Cand} (h : RsBox w W C A1 n1 c1 A2 n2 c2) (hb : Blk W Bp #[.pointer (some ⟨w.heap.size + 1 + 1, 0, none⟩)] 148) (hm : MapIs (fun a : Int => Value.int .i64 a) W Mp (polF Bp)) (hr : Own W w.heap.size 115 4 (.slice (some ⟨g, 0, none⟩) n cap) (candRows L)) :
    RvAt w W C A1 n1 c1 A2 n2 c2 Bp Mp g cap n L 0 (.slice none 0 0) (.slice none 0 0) (.slice none 0 0) :=
  ⟨h.bel, h.box, h.res, h.r, hb, hm, hr, Own.nil _ _ _ _, Own.nil _ _ _ _, Own.nil _ _ _ _, fun b hb => (by cases hb), fun b hb => (by cases hb), fun b hb => (by cases hb)⟩
theorem RsBox.new (w : World) (C : Cat) (A1 : Option Addr) (n1 c1 : Nat) (A2 : Option Addr) (n2 c2 : Nat) : RsBox w (((w.alloc (.cells #[.int .i64 C.free, .slice A1 n1 c1, .slice A2 n2 c2] 25)).alloc (.cells #[.int .i64 0, .int .i64 0, .int .i64 0, .string ⟨#[]⟩, .slice none 0 0, .slice none 0 0, .slice none 0 0] 117)).alloc (.cells #[.int .i64 0, .int .i64 0, .int .i64 0, .string ⟨#[]⟩, .slice none 0 0, .slice none 0 0, .slice none 0 0] 117)) C A1 n1 c1 A2 n2 c2 :=
  ⟨(((Below.refl _ _).alloc (Nat.le_refl _) _).alloc (by simp) _).alloc (by simp; omega) _, ((Blk.new _ _ _).alloc _).alloc _, (Blk.new2 _ _ _ _).alloc _, Blk.new3 _ _ _ _ _⟩
theorem RvAt.box {w W : World} {C : Cat} {A1 A2 : Option Addr} {n1 c1 n2 c2 Bp Mp g cap n k : Nat} {L : List Cand} {vc vo vi : Value} (h : RvAt w W C A1 n1 c1 A2 n2 c2 Bp Mp g cap n L k vc vo vi) : RvBox w W C A1 n1 c1 A2 n2 c2 Bp Mp g cap n L (if k = 0 then noC else F L 0) (vPol C 2 ((L.take k).drop 1)) (vPol C 3 ((L.take k).drop 1)) (vPol C 1 ((L.take k).drop 1)) vc vo vi := h
theorem RvBox.prin {w W : World} {C : Cat} {A1 A2 : Option Addr} {n1 c1 n2 c2 Bp Mp g cap n : Nat} {L : List Cand} {p : Cand} {cm om im : List Int} {vc vo vi : Value} (h : RvBox w W C A1 n1 c1 A2 n2 c2 Bp Mp g cap n L p cm om im vc vo vi) (x : Cand) :
    RvBox w ((((W.setCell ⟨w.heap.size + 1 + 1, 0, none⟩ (.int .i64 x.kind)).setCell ⟨w.heap.size + 1 + 1, 1, none⟩ (.int .i64 x.idx)).setCell ⟨w.heap.size + 1 + 1, 2, none⟩ (.int .i64 x.rank)).setCell ⟨w.heap.size + 1 + 1, 3, none⟩ (.string x.id)) C A1 n1 c1 A2 n2 c2 Bp Mp g cap n L x cm om im vc vo vi := by
  have gs : ∀ (V : World) (j : Nat) (v : Value), V.grownBy (V.setCell ⟨w.heap.size + 1 + 1, j, none⟩ v) (some (w.heap.size + 1 + 1)) := fun V j v => ⟨rfl, rfl, rfl, (KeepsWalks.setCell V _ _).size, fun k _ hk => Below.heap_setCell _ _ _ k (fun e => hk (by rw [e]))⟩
  have G := (((gs W 0 (.int .i64 x.kind)).trans (gs _ 1 (.int .i64 x.idx))).trans (gs _ 2 (.int .i64 x.rank))).trans (gs _ 3 (.string x.id))
  have hbp : Bp ≠ w.heap.size + 1 + 1 := fun e => by
    have h1 := h.bp
    have h2 := h.r
    rw [e] at h1
    unfold Blk at h1 h2
    rw [h1] at h2
    simp at h2
  have hmp : some Mp ≠ some (w.heap.size + 1 + 1) := fun e => by
    cases e
    obtain ⟨es, cl, l, hm, _⟩ := h.mp
    have h2 := h.r
    unfold Blk at h2
    rw [hm] at h2; cases h2
  exact ⟨h.bel.grown G h.bel.size (fun k e => by cases e; omega), h.box.grown G (by simp; omega), h.res.grown G (by simp), (((h.r.put 0 _ rfl).put 1 _ rfl).put 2 _ rfl).put 3 _ rfl, h.bp.grown G (fun e => hbp (by cases e; rfl)), h.mp.grown G hmp,
    h.row.kept G (.inr (h.row.ne_blk h.r (by decide))), h.oc.kept G (.inr (h.oc.ne_blk h.r (by decide))), h.oo.kept G (.inr (h.oo.ne_blk h.r (by decide))), h.oi.kept G (.inr (h.oi.ne_blk h.r (by decide))), h.a1, h.a2, h.a3⟩
theorem take_drop {L : List Cand} {k : Nat} (h1 : ¬ k = 0) (h2 : k < L.length) : (L.take (k + 1)).drop 1 = (L.take k).drop 1 ++ [F L k] := by
  rw [List.take_add_one, F_at h2, Option.toList_some, List.drop_append_of_le_length (by rw [List.length_take]; omega)]
theorem take_drop0 (L : List Cand) : (L.take (0 + 1)).drop 1 = [] ∧ (L.take 0).drop 1 = [] := by cases L <;> simp
/-- The class of worlds within the region that treats a feast. -/
structure RvQ (w : World) (C : Cat) (A1 : Option Addr) (n1 c1 : Nat) (A2 : Option Addr) (n2 c2 : Nat) (Bp Mp g cap n : Nat) (L : List Cand) (k : Nat) (vc vo vi : Value) (q : Nat) (x : Cand) (W : World) : Prop where
  at_ : RvAt w W C A1 n1 c1 A2 n2 c2 Bp Mp g cap n L k vc vo vi
  xb : Blk W q #[.int .i64 2, .int .i64 x.idx, .int .i64 x.rank, .string x.id] 115
section
variable {w W W2 w1 : World} {C : Cat} {A1 A2 : Option Addr} {n1 c1 n2 c2 Bp Mp g cap n k : Nat} {L : List Cand} {vc vo vi v1 : Value}
theorem RvAt.below (h : RvAt w W C A1 n1 c1 A2 n2 c2 Bp Mp g cap n L k vc vo vi) (hb : Below W.heap.size W W2) : RvAt w W2 C A1 n1 c1 A2 n2 c2 Bp Mp g cap n L k vc vo vi := RvBox.below h hb
theorem RvAt.one (h : RvAt w W C A1 n1 c1 A2 n2 c2 Bp Mp g cap n L 0 vc vo vi) (x : Cand) (hx : F L 0 = x) (o : Obj) :
    RvAt w (((((W.setCell ⟨w.heap.size + 1 + 1, 0, none⟩ (.int .i64 x.kind)).setCell ⟨w.heap.size + 1 + 1, 1, none⟩ (.int .i64 x.idx)).setCell ⟨w.heap.size + 1 + 1, 2, none⟩ (.int .i64 x.rank)).setCell ⟨w.heap.size + 1 + 1, 3, none⟩ (.string x.id)).alloc o) C A1 n1 c1 A2 n2 c2 Bp Mp g cap n L 1 vc vo vi := by
  have := (h.box.prin x).below ((Below.refl _ _).alloc (Nat.le_refl _) o)
  rw [(take_drop0 L).2] at this
  unfold RvAt
  rw [if_neg (by decide), (take_drop0 L).1, hx]
  exact this
theorem RvAt.skip (h : RvAt w W C A1 n1 c1 A2 n2 c2 Bp Mp g cap n L k vc vo vi) (h0 : ¬ k = 0) (hk : k < L.length) (h2 : ¬ (F L k).kind = 2) : RvAt w W C A1 n1 c1 A2 n2 c2 Bp Mp g cap n L (k + 1) vc vo vi := by
  have := h.box
  unfold RvAt
  rw [take_drop h0 hk, vPol_snoc, vPol_snoc, vPol_snoc, if_neg (by omega : ¬ k + 1 = 0)]
  rw [if_neg h0] at this
  simp only [h2, false_and, if_false, List.append_nil]
  exact this
theorem RvAt.tr1 (h : RvAt w W C A1 n1 c1 A2 n2 c2 Bp Mp g cap n L k vc vo vi) (h0 : ¬ k = 0) (hk : k < L.length) (h2 : (F L k).kind = 2) (hp : polOf C (F L k).idx = 2) (hq : PolPost W (w.heap.size + 1 + 1) (w.heap.size + 1 + 1 + 1) vc (vPol C 2 ((L.take k).drop 1) ++ [(F L k).idx]) W2 v1 w1)
    (hr : Blk W2 (w.heap.size + 1 + 1) #[.int .i64 (F L 0).kind, .int .i64 (F L 0).idx, .int .i64 (F L 0).rank, .string (F L 0).id, v1, vo, vi] 117) : RvAt w W2 C A1 n1 c1 A2 n2 c2 Bp Mp g cap n L (k + 1) v1 vo vi := by
  have := h.box
  rw [if_neg h0] at this
  have := this.pol1 hq hr
  unfold RvAt
  rw [take_drop h0 hk, vPol_snoc, vPol_snoc, vPol_snoc, hp]
  rw [if_neg (by omega : ¬ k + 1 = 0)]
  simp only [h2, true_and, Int.reduceEq, if_true, if_false, List.append_nil]
  exact this
theorem RvAt.tr2 (h : RvAt w W C A1 n1 c1 A2 n2 c2 Bp Mp g cap n L k vc vo vi) (h0 : ¬ k = 0) (hk : k < L.length) (h2 : (F L k).kind = 2) (hp : polOf C (F L k).idx = 3) (hq : PolPost W (w.heap.size + 1 + 1) (w.heap.size + 1 + 1 + 1) vo (vPol C 3 ((L.take k).drop 1) ++ [(F L k).idx]) W2 v1 w1)
    (hr : Blk W2 (w.heap.size + 1 + 1) #[.int .i64 (F L 0).kind, .int .i64 (F L 0).idx, .int .i64 (F L 0).rank, .string (F L 0).id, vc, v1, vi] 117) : RvAt w W2 C A1 n1 c1 A2 n2 c2 Bp Mp g cap n L (k + 1) vc v1 vi := by
  have := h.box
  rw [if_neg h0] at this
  have := this.pol2 hq hr
  unfold RvAt
  rw [take_drop h0 hk, vPol_snoc, vPol_snoc, vPol_snoc, hp]
  rw [if_neg (by omega : ¬ k + 1 = 0)]
  simp only [h2, true_and, Int.reduceEq, if_true, if_false, List.append_nil]
  exact this
theorem RvAt.tr3 (h : RvAt w W C A1 n1 c1 A2 n2 c2 Bp Mp g cap n L k vc vo vi) (h0 : ¬ k = 0) (hk : k < L.length) (h2 : (F L k).kind = 2) (hp : polOf C (F L k).idx = 1) (hq : PolPost W (w.heap.size + 1 + 1) (w.heap.size + 1 + 1 + 1) vi (vPol C 1 ((L.take k).drop 1) ++ [(F L k).idx]) W2 v1 w1)
    (hr : Blk W2 (w.heap.size + 1 + 1) #[.int .i64 (F L 0).kind, .int .i64 (F L 0).idx, .int .i64 (F L 0).rank, .string (F L 0).id, vc, vo, v1] 117) : RvAt w W2 C A1 n1 c1 A2 n2 c2 Bp Mp g cap n L (k + 1) vc vo v1 := by
  have := h.box
  rw [if_neg h0] at this
  have := this.pol3 hq hr
  unfold RvAt
  rw [take_drop h0 hk, vPol_snoc, vPol_snoc, vPol_snoc, hp]
  rw [if_neg (by omega : ¬ k + 1 = 0)]
  simp only [h2, true_and, Int.reduceEq, if_true, if_false, List.append_nil]
  exact this
end
theorem RvQ.atq {w W : World} {C : Cat} {A1 A2 : Option Addr} {n1 c1 n2 c2 Bp Mp g cap n k q : Nat} {L : List Cand} {vc vo vi : Value} {x : Cand} (h : RvQ w C A1 n1 c1 A2 n2 c2 Bp Mp g cap n L k vc vo vi q x W) : RvAt w W C A1 n1 c1 A2 n2 c2 Bp Mp g cap n L k vc vo vi := h.at_
theorem znf (w : World) : (zeroValue 161).run Tryz.prog w = .ok .nilFunc w := by kernel_rfl
set_option maxRecDepth 20000 in
set_option maxHeartbeats 1000000 in
theorem resolve_c (C : Cat) (A1 : Option Addr) (n1 c1 : Nat) (A2 : Option Addr) (n2 c2 : Nat) (l : List Cand) (A : Option Addr) (n c base : Nat) (w : World) (hI : Hid (CatIn w C A1 n1 c1 A2 n2 c2)) (hG : Hid C.Good) (h : Hid (Own w base 115 4 (.slice A n c) (candRows l))) (ht : Hid (Tot l)) (hn : Hid (n = l.length)) (h1 : 1 ≤ n) (h31 : n ≤ 32) (hA : ∃ ad, A = some ad) (hC : Hid (CdOk C l)) :
    Calls Tryz.prog 59 #[.agg #[.int .i64 C.free, .slice A1 n1 c1, .slice A2 n2 c2], .slice A n c] w fun e w' => ∃ vc vo vi, e = .returned (.agg #[.int .i64 (F (vSort l) 0).kind, .int .i64 (F (vSort l) 0).idx, .int .i64 (F (vSort l) 0).rank, .string (F (vSort l) 0).id, vc, vo, vi]) ∧
      (Own w' w.heap.size 3 1 vc (intRows (vPol C 2 ((vSort l).drop 1))) ∧ Own w' w.heap.size 3 1 vo (intRows (vPol C 3 ((vSort l).drop 1))) ∧ Own w' w.heap.size 3 1 vi (intRows (vPol C 1 ((vSort l).drop 1)))) ∧ Below w.heap.size w w' := by
  have HS := Lib.hid (RsBox.new w C A1 n1 c1 A2 n2 c2)
  go_enter Tryz.func59, Tryz.ntmps59
  go_wp2_with fail
  generalize (((w.alloc (.cells #[.int .i64 C.free, .slice A1 n1 c1, .slice A2 n2 c2] 25)).alloc (.cells #[.int .i64 0, .int .i64 0, .int .i64 0, .string ⟨#[]⟩, .slice none 0 0, .slice none 0 0, .slice none 0 0] 117)).alloc (.cells #[.int .i64 0, .int .i64 0, .int .i64 0, .string ⟨#[]⟩, .slice none 0 0, .slice none 0 0, .slice none 0 0] 117)) = W0 at HS ⊢
  refine (policies_c (w.heap.size + 1 + 1) W0).mono ?_
  rintro e w1 ⟨rfl, hp⟩
  replace HS := Lib.hid (HS.out.below hp.bel)
  have hs1 := HS.out.bel.size
  have HB := Lib.hid hp.bp
  have HM := Lib.hid hp.mp
  clear hp
  generalize W0.heap.size = Bp at HB HM ⊢
  generalize Bp + 1 = Mp at HM ⊢
  have LL := Lib.hid (vSort_perm l).length_eq
  have HT := Lib.hid (ht.out.perm (vSort_perm l))
  have HCd : Hid (CdOk C (vSort l)) := Lib.hid fun x hx => hC.out x ((vSort_perm l).mem_iff.1 hx)
  go_wp2_with (first | (go_at_call 93; with_reducible refine (psort_c l A n c base _ (Lib.hid (h.out.below HS.out.bel)) ht hn h1 h31 hA).mono ?_; rintro e w2 ⟨g, cap, rfl, ho, hb⟩; replace HS := Lib.hid (HS.out.below hb); replace HB := Lib.hid (HB.out.below hb); replace HM := Lib.hid (HM.out.below hb); have HO := Lib.hid (ho.less hs1); clear hb ho))
  have R0 := Lib.hid (HS.out.start HB.out HM.out HO.out)
  clear HS HB HM HO
  have NL := Lib.hid (show n = (vSort l).length by rw [LL.out]; exact hn.out)
  obtain ⟨L, hL⟩ : ∃ L, vSort l = L := ⟨_, rfl⟩
  rw [hL] at R0 NL HT HCd
  have LEQ := Lib.hid hL
  clear LL hL
  go_loopw [13] (fun i wr => ∃ (k : Nat) (vc vo vi : Value), k ≤ n ∧ i = .int .i64 k ∧ Hid (RvAt w wr C A1 n1 c1 A2 n2 c2 Bp Mp g cap n L k vc vo vi)) (fun i _ => (n - intOf i).toNat)
  case atStart => exact ⟨0, _, _, _, by omega, rfl, R0⟩
  case round =>
    clear R0
    obtain ⟨k, vc, vo, vi, k1, rfl, HR⟩ := hrel
    by_cases hk : k < n
    · have hk' : (k : Int) < n := by omega
      have hL := F_at (l := L) (i := k) (by have := NL.out; omega)
      obtain ⟨⟨b0, b1, b2, b3⟩, _⟩ := (CoBox.mk (World.grownBy.refl _ _) HR.out.box.row).cells hL
      obtain ⟨⟨d0, d1, d2⟩, d3⟩ := HR.out.box.box.c3
      have x0 := HR.out.box.box.lt
      have x1 := HR.out.box.r.lt
      have x2 := HR.out.box.bp.lt
      have x3 := (HR.out.box.row.block g rfl).2
      obtain ⟨x, hx⟩ : ∃ x, F L k = x := ⟨_, rfl⟩
      have HX := Lib.hid hx
      rw [hx] at b0 b1 b2 b3
      clear hx hL
      have r0 := HR.out.box.r.cell 0
      have r1 := HR.out.box.r.cell 1
      have r2 := HR.out.box.r.cell 2
      have r3 := HR.out.box.r.cell 3
      have f0 := HR.out.box.r.frozen 0
      have f1 := HR.out.box.r.frozen 1
      have f2 := HR.out.box.r.frozen 2
      have f3 := HR.out.box.r.frozen 3
      by_cases h0 : k = 0
      · subst h0
        go_wp2_with fail
        exact ⟨⟨1, vc, vo, vi, h1, rfl, Lib.hid (HR.out.one x HX.out _)⟩, by simp [intOf]; omega⟩
      · have t0 : ((k : Int) == 0) = false := by simp; omega
        have kL : k < L.length := by have := NL.out; omega
        have XI := Lib.hid (HCd.out x (by rw [← HX.out]; exact List.mem_of_getElem? (F_at (by have := NL.out; omega))))
        by_cases h2 : x.kind = 2
        · have t2 : (x.kind == 2) = true := by simp [h2]
          obtain ⟨xi1, xi2⟩ := XI.out h2
          obtain ⟨f, hf⟩ : ∃ f, C.feas[x.idx.toNat]? = some f := ⟨_, List.getElem?_eq_getElem (by omega)⟩
          have fm := hG.out.fea f (List.mem_of_getElem? hf)
          have HPF : Hid (polOf C x.idx = f.pol) := Lib.hid (by unfold polOf; rw [hf])
          have HRW : Hid ((C.feas.map Fea.cells)[x.idx.toNat]? = some f.cells) := Lib.hid (by rw [List.getElem?_map, hf]; rfl)
          have xi3 : x.idx < (n2 : Int) := by rw [hI.out.e2]; exact xi2
          have p1 := fm.p1
          have p2 := fm.p2
          have K2 := Lib.hid h2
          clear hf fm xi2 r0 r1 r2 r3 f0 f1 f2 f3
          go_wp2_with fail
          rcases (show f.pol = 1 ∨ f.pol = 2 ∨ f.pol = 3 by omega) with fp | fp | fp
          · have D1 : RvQ w C A1 n1 c1 A2 n2 c2 Bp Mp g cap n L k vc vo vi wr.heap.size x ((wr.alloc (.cells #[.int .i64 2, .int .i64 x.idx, .int .i64 x.rank, .string x.id] 115)).drew) := ⟨(HR.out.below ((Below.refl _ _).alloc (Nat.le_refl _) _)).below (Below.refl _ _).drew, Blk.new _ _ _⟩
            generalize wr.heap.size = q at D1 ⊢
            have e0 : ∀ y : Of (RvQ w C A1 n1 c1 A2 n2 c2 Bp Mp g cap n L k vc vo vi q x), y.val.cell? ⟨w.heap.size, 2, none⟩ = some (.slice A2 n2 c2) := fun y => y.ok.at_.box.box.cell 2
            have e1 : ∀ y : Of (RvQ w C A1 n1 c1 A2 n2 c2 Bp Mp g cap n L k vc vo vi q x), y.val.cell? ⟨q, 1, none⟩ = some (.int .i64 x.idx) := fun y => y.ok.xb.cell 1
            have e2 : ∃ ad, A2 = some ad ∧ ∀ y : Of (RvQ w C A1 n1 c1 A2 n2 c2 Bp Mp g cap n L k vc vo vi q x), y.val.cell? ⟨(ad.add (x.idx.toNat * 9)).block, (ad.add (x.idx.toNat * 9)).off + 2, none⟩ = some (.int .i64 1) := by
              obtain ⟨ad, ha, _⟩ := hI.out.fea.at_ HRW.out
              refine ⟨ad, ha, fun y => ?_⟩
              obtain ⟨ad', ha', hr⟩ := (hI.out.fea.below y.ok.at_.box.bel).at_ HRW.out
              rw [ha] at ha'
              cases ha'
              have := hr.nine.2.2.1
              rw [fp] at this
              exact this
            have e3 : ∀ y : Of (RvQ w C A1 n1 c1 A2 n2 c2 Bp Mp g cap n L k vc vo vi q x), (Instr.lookup 146 (.map (some Mp)) (.int .i64 1) false).run Tryz.prog y.val = .ok (.func (.func 132) #[] #[.pointer (some ⟨Bp, 0, none⟩)]) y.val := fun y => y.ok.at_.box.mp.look KI Tryz.underlying146 1 znf false
            obtain ⟨ad, rfl, e2⟩ := e2
            refine wp_region_cls_tail (C := RvQ w C A1 n1 c1 (some ad) n2 c2 Bp Mp g cap n L k vc vo vi q x) 11 (by kernel_rfl) (by kernel_rfl) D1 ?_
            haveI : Nonempty (Of (RvQ w C A1 n1 c1 (some ad) n2 c2 Bp Mp g cap n L k vc vo vi q x)) := ⟨⟨_, D1⟩⟩
            clear D1
            simp only [List.take_succ_cons, List.take_zero, List.drop_succ_cons, List.drop_zero]
            repeat go_big_quiet_step (fail)
            refine wpQuiet_nil ?_
            rintro _ ⟨w7, rfl⟩
            have HQ := Lib.hid w7.ok.atq
            have HB7 := HQ.out.box
            rw [if_neg h0] at HB7
            have hx7 : F L k = x := HX.out
            have HB8 := Lib.hid HB7
            have vl : (vPol C 1 ((L.take k).drop 1)).length ≤ 1000 := by
              refine Nat.le_trans (vPol_len _ _ _) ?_
              rw [List.length_drop, List.length_take]; omega
            have bs := HB7.oc.1
            clear e0 e1 e2 e3 bs HB7 hx7
            have wb : w.heap.size + 1 + 1 + 1 ≤ w7.val.heap.size := HB8.out.r.lt
            go_wp2_with (first | (go_at_call 132; with_reducible refine (pol3_c x.idx Bp (w.heap.size + 1 + 1) (w.heap.size + 1 + 1 + 1) _ _ _ _ vc vo vi _ _ (Lib.hid HB8.out.bp) (Lib.hid HB8.out.r) (Lib.hid HB8.out.oi) wb vl).mono ?_; rintro e w8 ⟨rfl, v1, w9, hp, hr⟩; have HP := Lib.hid hp; have HR9 := Lib.hid hr; clear hp hr))
            have HR2 := Lib.hid (HQ.out.tr3 h0 kL (by rw [HX.out]; exact K2.out) (by rw [HX.out, HPF.out, fp]) (by rw [HX.out]; exact HP.out) HR9.out)
            exact ⟨⟨k + 1, _, _, _, by omega, by go_num, HR2⟩, by simp [intOf]; omega⟩
          · have D1 : RvQ w C A1 n1 c1 A2 n2 c2 Bp Mp g cap n L k vc vo vi wr.heap.size x ((wr.alloc (.cells #[.int .i64 2, .int .i64 x.idx, .int .i64 x.rank, .string x.id] 115)).drew) := ⟨(HR.out.below ((Below.refl _ _).alloc (Nat.le_refl _) _)).below (Below.refl _ _).drew, Blk.new _ _ _⟩
            generalize wr.heap.size = q at D1 ⊢
            have e0 : ∀ y : Of (RvQ w C A1 n1 c1 A2 n2 c2 Bp Mp g cap n L k vc vo vi q x), y.val.cell? ⟨w.heap.size, 2, none⟩ = some (.slice A2 n2 c2) := fun y => y.ok.at_.box.box.cell 2
            have e1 : ∀ y : Of (RvQ w C A1 n1 c1 A2 n2 c2 Bp Mp g cap n L k vc vo vi q x), y.val.cell? ⟨q, 1, none⟩ = some (.int .i64 x.idx) := fun y => y.ok.xb.cell 1
            have e2 : ∃ ad, A2 = some ad ∧ ∀ y : Of (RvQ w C A1 n1 c1 A2 n2 c2 Bp Mp g cap n L k vc vo vi q x), y.val.cell? ⟨(ad.add (x.idx.toNat * 9)).block, (ad.add (x.idx.toNat * 9)).off + 2, none⟩ = some (.int .i64 2) := by
              obtain ⟨ad, ha, _⟩ := hI.out.fea.at_ HRW.out
              refine ⟨ad, ha, fun y => ?_⟩
              obtain ⟨ad', ha', hr⟩ := (hI.out.fea.below y.ok.at_.box.bel).at_ HRW.out
              rw [ha] at ha'
              cases ha'
              have := hr.nine.2.2.1
              rw [fp] at this
              exact this
            have e3 : ∀ y : Of (RvQ w C A1 n1 c1 A2 n2 c2 Bp Mp g cap n L k vc vo vi q x), (Instr.lookup 146 (.map (some Mp)) (.int .i64 2) false).run Tryz.prog y.val = .ok (.func (.func 130) #[] #[.pointer (some ⟨Bp, 0, none⟩)]) y.val := fun y => y.ok.at_.box.mp.look KI Tryz.underlying146 2 znf false
            obtain ⟨ad, rfl, e2⟩ := e2
            refine wp_region_cls_tail (C := RvQ w C A1 n1 c1 (some ad) n2 c2 Bp Mp g cap n L k vc vo vi q x) 11 (by kernel_rfl) (by kernel_rfl) D1 ?_
            haveI : Nonempty (Of (RvQ w C A1 n1 c1 (some ad) n2 c2 Bp Mp g cap n L k vc vo vi q x)) := ⟨⟨_, D1⟩⟩
            clear D1
            simp only [List.take_succ_cons, List.take_zero, List.drop_succ_cons, List.drop_zero]
            repeat go_big_quiet_step (fail)
            refine wpQuiet_nil ?_
            rintro _ ⟨w7, rfl⟩
            have HQ := Lib.hid w7.ok.atq
            have HB7 := HQ.out.box
            rw [if_neg h0] at HB7
            have hx7 : F L k = x := HX.out
            have HB8 := Lib.hid HB7
            have vl : (vPol C 2 ((L.take k).drop 1)).length ≤ 1000 := by
              refine Nat.le_trans (vPol_len _ _ _) ?_
              rw [List.length_drop, List.length_take]; omega
            have bs := HB7.oc.1
            clear e0 e1 e2 e3 bs HB7 hx7
            have wb : w.heap.size + 1 + 1 + 1 ≤ w7.val.heap.size := HB8.out.r.lt
            go_wp2_with (first | (go_at_call 130; with_reducible refine (pol1_c x.idx Bp (w.heap.size + 1 + 1) (w.heap.size + 1 + 1 + 1) _ _ _ _ vc vo vi _ _ (Lib.hid HB8.out.bp) (Lib.hid HB8.out.r) (Lib.hid HB8.out.oc) wb vl).mono ?_; rintro e w8 ⟨rfl, v1, w9, hp, hr⟩; have HP := Lib.hid hp; have HR9 := Lib.hid hr; clear hp hr))
            have HR2 := Lib.hid (HQ.out.tr1 h0 kL (by rw [HX.out]; exact K2.out) (by rw [HX.out, HPF.out, fp]) (by rw [HX.out]; exact HP.out) HR9.out)
            exact ⟨⟨k + 1, _, _, _, by omega, by go_num, HR2⟩, by simp [intOf]; omega⟩
          · have D1 : RvQ w C A1 n1 c1 A2 n2 c2 Bp Mp g cap n L k vc vo vi wr.heap.size x ((wr.alloc (.cells #[.int .i64 2, .int .i64 x.idx, .int .i64 x.rank, .string x.id] 115)).drew) := ⟨(HR.out.below ((Below.refl _ _).alloc (Nat.le_refl _) _)).below (Below.refl _ _).drew, Blk.new _ _ _⟩
            generalize wr.heap.size = q at D1 ⊢
            have e0 : ∀ y : Of (RvQ w C A1 n1 c1 A2 n2 c2 Bp Mp g cap n L k vc vo vi q x), y.val.cell? ⟨w.heap.size, 2, none⟩ = some (.slice A2 n2 c2) := fun y => y.ok.at_.box.box.cell 2
            have e1 : ∀ y : Of (RvQ w C A1 n1 c1 A2 n2 c2 Bp Mp g cap n L k vc vo vi q x), y.val.cell? ⟨q, 1, none⟩ = some (.int .i64 x.idx) := fun y => y.ok.xb.cell 1
            have e2 : ∃ ad, A2 = some ad ∧ ∀ y : Of (RvQ w C A1 n1 c1 A2 n2 c2 Bp Mp g cap n L k vc vo vi q x), y.val.cell? ⟨(ad.add (x.idx.toNat * 9)).block, (ad.add (x.idx.toNat * 9)).off + 2, none⟩ = some (.int .i64 3) := by
              obtain ⟨ad, ha, _⟩ := hI.out.fea.at_ HRW.out
              refine ⟨ad, ha, fun y => ?_⟩
              obtain ⟨ad', ha', hr⟩ := (hI.out.fea.below y.ok.at_.box.bel).at_ HRW.out
              rw [ha] at ha'
              cases ha'
              have := hr.nine.2.2.1
              rw [fp] at this
              exact this
            have e3 : ∀ y : Of (RvQ w C A1 n1 c1 A2 n2 c2 Bp Mp g cap n L k vc vo vi q x), (Instr.lookup 146 (.map (some Mp)) (.int .i64 3) false).run Tryz.prog y.val = .ok (.func (.func 131) #[] #[.pointer (some ⟨Bp, 0, none⟩)]) y.val := fun y => y.ok.at_.box.mp.look KI Tryz.underlying146 3 znf false
            obtain ⟨ad, rfl, e2⟩ := e2
            refine wp_region_cls_tail (C := RvQ w C A1 n1 c1 (some ad) n2 c2 Bp Mp g cap n L k vc vo vi q x) 11 (by kernel_rfl) (by kernel_rfl) D1 ?_
            haveI : Nonempty (Of (RvQ w C A1 n1 c1 (some ad) n2 c2 Bp Mp g cap n L k vc vo vi q x)) := ⟨⟨_, D1⟩⟩
            clear D1
            simp only [List.take_succ_cons, List.take_zero, List.drop_succ_cons, List.drop_zero]
            repeat go_big_quiet_step (fail)
            refine wpQuiet_nil ?_
            rintro _ ⟨w7, rfl⟩
            have HQ := Lib.hid w7.ok.atq
            have HB7 := HQ.out.box
            rw [if_neg h0] at HB7
            have hx7 : F L k = x := HX.out
            have HB8 := Lib.hid HB7
            have vl : (vPol C 3 ((L.take k).drop 1)).length ≤ 1000 := by
              refine Nat.le_trans (vPol_len _ _ _) ?_
              rw [List.length_drop, List.length_take]; omega
            have bs := HB7.oc.1
            clear e0 e1 e2 e3 bs HB7 hx7
            have wb : w.heap.size + 1 + 1 + 1 ≤ w7.val.heap.size := HB8.out.r.lt
            go_wp2_with (first | (go_at_call 131; with_reducible refine (pol2_c x.idx Bp (w.heap.size + 1 + 1) (w.heap.size + 1 + 1 + 1) _ _ _ _ vc vo vi _ _ (Lib.hid HB8.out.bp) (Lib.hid HB8.out.r) (Lib.hid HB8.out.oo) wb vl).mono ?_; rintro e w8 ⟨rfl, v1, w9, hp, hr⟩; have HP := Lib.hid hp; have HR9 := Lib.hid hr; clear hp hr))
            have HR2 := Lib.hid (HQ.out.tr2 h0 kL (by rw [HX.out]; exact K2.out) (by rw [HX.out, HPF.out, fp]) (by rw [HX.out]; exact HP.out) HR9.out)
            exact ⟨⟨k + 1, _, _, _, by omega, by go_num, HR2⟩, by simp [intOf]; omega⟩
        · have t2 : (x.kind == 2) = false := by simp [h2]
          go_wp2_with fail
          exact ⟨⟨k + 1, vc, vo, vi, by omega, by go_num, Lib.hid ((HR.out.skip h0 kL (by rw [HX.out]; exact h2)).below ((Below.refl _ _).alloc (Nat.le_refl _) _))⟩, by simp [intOf]; omega⟩
    · obtain rfl : k = n := by omega
      have TK : (L.take k).drop 1 = L.drop 1 := by rw [List.take_of_length_le (by have := NL.out; omega)]
      have HF := HR.out.box
      rw [TK, if_neg (by omega)] at HF
      have r0 : wr.cell? ⟨w.heap.size + 1 + 1, 0, none⟩ = some (.int .i64 (F L 0).kind) := HF.r.cell 0
      have r1 : wr.cell? ⟨w.heap.size + 1 + 1, 1, none⟩ = some (.int .i64 (F L 0).idx) := HF.r.cell 1
      have r2 : wr.cell? ⟨w.heap.size + 1 + 1, 2, none⟩ = some (.int .i64 (F L 0).rank) := HF.r.cell 2
      have r3 : wr.cell? ⟨w.heap.size + 1 + 1, 3, none⟩ = some (.string (F L 0).id) := HF.r.cell 3
      have r4 : wr.cell? ⟨w.heap.size + 1 + 1, 4, none⟩ = some vc := HF.r.cell 4
      have r5 : wr.cell? ⟨w.heap.size + 1 + 1, 5, none⟩ = some vo := HF.r.cell 5
      have r6 : wr.cell? ⟨w.heap.size + 1 + 1, 6, none⟩ = some vi := HF.r.cell 6
      have s0 : ∀ j : Nat, j < 7 → wr.frozen? ⟨w.heap.size + 1, j, none⟩ = false := fun j _ => HF.res.frozen j
      have z0 := s0 0 (by omega)
      have z1 := s0 1 (by omega)
      have z2 := s0 2 (by omega)
      have z3 := s0 3 (by omega)
      have z4 := s0 4 (by omega)
      have z5 := s0 5 (by omega)
      have z6 := s0 6 (by omega)
      have y0 : wr.cell? ⟨w.heap.size + 1, 0, none⟩ = some (.int .i64 0) := HF.res.cell 0
      have y1 : wr.cell? ⟨w.heap.size + 1, 1, none⟩ = some (.int .i64 0) := HF.res.cell 1
      have y2 : wr.cell? ⟨w.heap.size + 1, 2, none⟩ = some (.int .i64 0) := HF.res.cell 2
      have y3 : wr.cell? ⟨w.heap.size + 1, 3, none⟩ = some (.string ⟨#[]⟩) := HF.res.cell 3
      have y4 : wr.cell? ⟨w.heap.size + 1, 4, none⟩ = some (.slice none 0 0) := HF.res.cell 4
      have y5 : wr.cell? ⟨w.heap.size + 1, 5, none⟩ = some (.slice none 0 0) := HF.res.cell 5
      have y6 : wr.cell? ⟨w.heap.size + 1, 6, none⟩ = some (.slice none 0 0) := HF.res.cell 6
      have HF := Lib.hid HF
      clear s0
      obtain ⟨Ac, mc, cc, rfl⟩ := HF.out.oc.named
      obtain ⟨Ao, mo, co, rfl⟩ := HF.out.oo.named
      obtain ⟨Ai, mi, ci, rfl⟩ := HF.out.oi.named
      go_wp2_with fail
      have gs : ∀ (V : World) (j : Nat) (v : Value), V.grownBy (V.setCell ⟨w.heap.size + 1, j, none⟩ v) (some (w.heap.size + 1)) := fun V j v => ⟨rfl, rfl, rfl, (KeepsWalks.setCell V _ _).size, fun k _ hk => Below.heap_setCell _ _ _ k (fun e => hk (by rw [e]))⟩
      have G := ((((((gs wr 0 (.int .i64 (F L 0).kind)).trans (gs _ 1 (.int .i64 (F L 0).idx))).trans (gs _ 2 (.int .i64 (F L 0).rank))).trans (gs _ 3 (.string (F L 0).id))).trans (gs _ 4 (.slice Ac mc cc))).trans (gs _ 5 (.slice Ao mo co))).trans (gs _ 6 (.slice Ai mi ci))
      refine bodyPost_ret (results_cell_row rfl _ _ (w.heap.size + 1) 117 #[.int .i64 (F L 0).kind, .int .i64 (F L 0).idx, .int .i64 (F L 0).rank, .string (F L 0).id, .slice Ac mc cc, .slice Ao mo co, .slice Ai mi ci] (0, 0) _ rfl (((((((HF.out.res.put 0 _ rfl).put 1 _ rfl).put 2 _ rfl).put 3 _ rfl).put 4 _ rfl).put 5 _ rfl).put 6 _ rfl) Tryz.underlying117 rfl (by kernel_rfl)) rfl ?_
      have ok : ∀ {v : Value} {xs : List Int}, Own wr (w.heap.size + 1 + 1 + 1) 3 1 v (intRows xs) → v.ownBlock = none ∨ v.ownBlock ≠ some (w.heap.size + 1) := fun h => .inr fun e => by have := (h.block _ e).1; omega
      have l3 : w.heap.size ≤ w.heap.size + 1 + 1 + 1 := by omega
      have leq := LEQ.out
      subst leq
      exact ⟨_, _, _, rfl, ⟨(HF.out.oc.kept G (ok HF.out.oc)).less l3, (HF.out.oo.kept G (ok HF.out.oo)).less l3, (HF.out.oi.kept G (ok HF.out.oi)).less l3⟩, HF.out.bel.grown G HF.out.bel.size (fun k e => by cases e; exact Nat.le_succ _)⟩
end Go.Proofs.YtdgaflcnigljlaaGreatDoor
/-
  Contracts of package occurrence: whether a day is free; cloning rows of whole numbers. No further condition.
-/
namespace Go.Proofs.YtdgaflcnigljlaaGreatDoor
open Go.RowKit Go.Proofs Go.MapKept Go.Proofs.YtdgaflcnigljlaaGreatDoorW.PrintWords
set_option linter.unusedVariables false
theorem free_c (C : Cat) (A1 : Option Addr) (n1 c1 : Nat) (A2 : Option Addr) (n2 c2 : Nat) (k i r : Int) (s : ByteArray) (v1 v2 v3 : Value) (w : World) :
    Calls Tryz.prog 61 #[.agg #[.int .i64 C.free, .slice A1 n1 c1, .slice A2 n2 c2], .agg #[.int .i64 k, .int .i64 i, .int .i64 r, .string s, v1, v2, v3]] w fun e w' => e = .returned (.bool (decide (C.free < r))) ∧ Below w.heap.size w w' := by
  have HB := Lib.hid (((Below.refl w.heap.size w).alloc (Nat.le_refl _) (.cells #[.int .i64 C.free, .slice A1 n1 c1, .slice A2 n2 c2] 25)).alloc (by simp) (.cells #[.int .i64 k, .int .i64 i, .int .i64 r, .string s, v1, v2, v3] 117))
  go_enter Tryz.func61, Tryz.ntmps61
  go_wp2_with fail
  go_ret
  exact ⟨rfl, HB.out⟩
theorem int_one (l : List Int) : ∀ r ∈ intRows l, ∀ q ∈ r.toList, q.oneCell' = true := fun r hr q hq => by
  obtain ⟨c, _, rfl⟩ := List.mem_map.1 hr
  simp only [List.mem_cons, List.not_mem_nil, or_false] at hq
  subst hq; rfl
theorem Own.lit0 (w : World) (e sz : Nat) : Own (w.alloc (.cells #[] e)) w.heap.size e sz (.slice (some ⟨w.heap.size, 0, none⟩) 0 0) [] :=
  ⟨by simpa using World.ownsRow_lit (e := e) (size := sz) (base := w.heap.size) w #[] 0 (Nat.le_refl _) (by decide) (by simp), fun r hr => by cases hr⟩
set_option maxRecDepth 20000 in
set_option maxHeartbeats 400000 in
theorem clonei_c (v : Value) (base : Nat) (xs : List Int) (w : World) (h : Hid (Own w base 3 1 v (intRows xs))) (hl : Hid (xs.length ≤ 1000)) :
    Calls Tryz.prog 140 #[v] w fun e w' => ∃ v1, e = .returned v1 ∧ Own w' w.heap.size 3 1 v1 (intRows xs) ∧ Below w.heap.size w w' := by
  obtain ⟨A, c, rfl, hc⟩ := h.out.form
  cases A with
  | none =>
    have he : ∀ w : World, (binOp .eql 36 (.slice none (intRows xs).length c) (.slice none 0 0)).run Tryz.prog w = .ok (.bool true) w := fun _ => rfl
    have hx : xs = [] := by
      rcases h.out.1.2 with ⟨h', _⟩ | ⟨g, cap, cur, h', _⟩
      · simp only [Value.slice.injEq] at h'
        have := h'.2.1
        simpa [intRows] using this
      · simp at h'
    subst hx
    go_enter Tryz.func140, Tryz.ntmps140
    go_wp2_with fail
    go_ret
    exact ⟨.slice none 0 0, rfl, Own.nil _ _ _ _, Below.refl _ _⟩
  | some ad =>
    generalize (intRows xs).length = n at *
    have he : ∀ w : World, (binOp .eql 36 (.slice (some ad) n c) (.slice none 0 0)).run Tryz.prog w = .ok (.bool false) w := fun _ => rfl
    have H0 := Lib.hid (Own.lit0 w 3 1)
    go_enter Tryz.func140, Tryz.ntmps140
    go_wp2_with (first | (at_builtin; refine own_cat 36 3 rfl _ _ rfl Tryz.underlying36 info3 rfl (by decide) (by decide) (.slice (some ⟨w.heap.size, 0, none⟩) 0 0) rfl (.slice (some ad) n c) (intRows xs) rfl (int_one _) H0.out (h.out.alloc _) (by simp) (by have := hl.out; simp [intRows]; omega) ?_; intro v1 w4 ho hg _; have HO := Lib.hid ho; have HG := Lib.hid hg; clear ho hg))
    go_ret
    rw [List.nil_append] at HO
    exact ⟨v1, rfl, HO.out, ((Below.refl _ _).alloc (Nat.le_refl _) _).grown HG.out (by simp) (fun k e => by cases e; exact Nat.le_refl _)⟩
end Go.Proofs.YtdgaflcnigljlaaGreatDoor
