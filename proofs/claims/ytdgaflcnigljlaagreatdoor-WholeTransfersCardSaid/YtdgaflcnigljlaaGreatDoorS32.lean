/-
  Contracts and plain facts for the laws on the whole program: the parts below say each what they are. No further condition.
-/
import Derived.Test.YtdgaflcnigljlaaGreatDoorS30
import Derived.Shelf.Spec.SlicesGrow
import Derived.BigRegion
import Derived.Defers
import Derived.Recover
set_option linter.unusedSimpArgs false
/-
  Contract of the library's Grow from nil to some strings. No further condition.
-/
namespace Go.Proofs.YtdgaflcnigljlaaGreatDoor
open Go.RowKit Go.Proofs Go.Shelf Go.MapKept Go.Proofs.YtdgaflcnigljlaaGreatDoorW.PrintWords
set_option linter.unusedVariables false
def lGrw_ren : Go.Shelf.Ren := ⟨fun | 4 => 126 | n => n, fun | 22 => 40 | 25 => 9 | n => n, fun | n => n⟩
theorem lGrw : Go.Proofs.Lays8.n4 Tryz.prog lGrw_ren := {
  mixed := by kernel_rfl
  f4 := ⟨Tryz.f126.name, by kernel_rfl, Tryz.func126.trans (congrArg some (by kernel_rfl))⟩
  t0 := Tryz.underlying0
  a0 := Tryz.isAgg0
  z0 := Tryz.sizeOf0
  v0 := Tryz.zeroValue0
  t3 := Tryz.underlying3
  a3 := Tryz.isAgg3
  z3 := Tryz.sizeOf3
  v3 := Tryz.zeroValue3
  t4 := Tryz.underlying4
  a4 := Tryz.isAgg4
  z4 := Tryz.sizeOf4
  v4 := Tryz.zeroValue4
  t9 := Tryz.underlying9
  a9 := Tryz.isAgg9
  z9 := Tryz.sizeOf9
  v9 := Tryz.zeroValue9
  t20 := Tryz.underlying20
  a20 := Tryz.isAgg20
  z20 := Tryz.sizeOf20
  v20 := Tryz.zeroValue20
  t22 := Tryz.underlying40
  a22 := Tryz.isAgg40
  z22 := Tryz.sizeOf40
  v22 := Tryz.zeroValue40 }
theorem grow33_c (n : Nat) (w : World) (h1 : 1 ≤ n) (h2 : n ≤ 1000) : Calls Tryz.prog 126 #[.slice none 0 0, .int .i64 n] w fun e w' => ∃ v, e = .returned v ∧ Own w' w.heap.size 9 1 v [] ∧ Below w.heap.size w w' := by
  obtain ⟨i0, hi, hz⟩ := Option.map_eq_some_iff.1 info9
  simp only [Prod.mk.injEq] at hz
  obtain ⟨hz0, hz1, hz2⟩ := hz
  refine (Any8.slices_Grow_grow lGrw i0 (.string ⟨#[]⟩) hi hz0 (by omega) none 0 0 n [] w (by omega) (by omega) (by rw [hz2]; omega) (by omega) (by simp) (fun _ => rfl) (fun a h => by cases h)).mono ?_
  rintro e w' ⟨rfl, rfl⟩
  have g1 := grownCap_ge w (0 + n) 0 9
  have g2 := grownCap_le_maxLen w (0 + n) 0 9 (by simp only [maxLen]; omega)
  refine ⟨_, rfl, ⟨⟨by simp, .inr ⟨w.heap.size, grownCap w (0 + n) 0 9, _, rfl, Nat.le_refl _, heap_alloc_new w.drew _, by simp, g2, ?_, by simp⟩⟩, fun r h => by cases h⟩, ((Below.refl _ _).drew).alloc (Nat.le_refl _) _⟩
  rw [Array.size_append, Array.size_append, size_zeroCells, size_zeroCells]
  simp only [Value.cells, lGrw_ren]
  rw [Nat.zero_add] at g1
  simp
  omega
end Go.Proofs.YtdgaflcnigljlaaGreatDoor
/-
  Contract of package builtin: there are thirty-three names. No further condition.
-/
namespace Go.Proofs.YtdgaflcnigljlaaGreatDoor
open Go.RowKit Go.Proofs Go.Shelf Go.MapKept Go.Proofs.YtdgaflcnigljlaaGreatDoorW.PrintWords
set_option linter.unusedVariables false
structure CnBox (w W : World) (v : Value) (l : List ByteArray) : Prop where
  bel : Below w.heap.size w W
  own : Own W w.heap.size 9 1 v (strRows l)
theorem CnBox.below {w W W2 : World} {v : Value} {l : List ByteArray} (h : CnBox w W v l) (hb : Below W.heap.size W W2) : CnBox w W2 v l := ⟨below_then h.bel h.bel.size hb, h.own.below hb⟩
theorem CnBox.cat {w W W2 : World} {v v1 : Value} {l l2 : List ByteArray} (h : CnBox w W v l) (ho : Own W2 w.heap.size 9 1 v1 (strRows l2)) (hg : W.grownBy W2 v.ownBlock) : CnBox w W2 v1 l2 :=
  ⟨h.bel.grown hg h.bel.size (fun k e => (h.own.block k e).1), ho⟩
theorem str_one (l : List ByteArray) : ∀ r ∈ strRows l, ∀ q ∈ r.toList, q.oneCell' = true := fun r hr q hq => by
  obtain ⟨c, _, rfl⟩ := List.mem_map.1 hr
  simp only [List.mem_cons, List.not_mem_nil, or_false] at hq
  subst hq; rfl
/-- Two rows of strings, one behind the other. -/
structure TwoIn (w : World) (g : Nat) (v1 v2 : Value) (l1 l2 : List ByteArray) : Prop where
  ar : Blk w g #[v1, v2] 40
  o1 : Own w 0 9 1 v1 (strRows l1)
  o2 : Own w 0 9 1 v2 (strRows l2)
theorem TwoIn.below {w W : World} {g : Nat} {v1 v2 : Value} {l1 l2 : List ByteArray} (h : TwoIn w g v1 v2 l1 l2) (hb : Below w.heap.size w W) : TwoIn W g v1 v2 l1 l2 := ⟨h.ar.below hb, h.o1.below hb, h.o2.below hb⟩
set_option maxRecDepth 20000 in
set_option maxHeartbeats 1000000 in
theorem concat_c (g : Nat) (a1 a2 : Option Addr) (n1 n2 c1 c2 : Nat) (l1 l2 : List ByteArray) (w : World) (h : Hid (TwoIn w g (.slice a1 n1 c1) (.slice a2 n2 c2) l1 l2)) (e1 : Hid (n1 = l1.length)) (e2 : Hid (n2 = l2.length)) (h1 : 1 ≤ n1) (h2 : n1 ≤ 400) (h3 : n2 ≤ 400) :
    Calls Tryz.prog 87 #[.slice (some ⟨g, 0, none⟩) 2 2] w fun e w' => ∃ v, e = .returned v ∧ Own w' w.heap.size 9 1 v (strRows (l1 ++ l2)) ∧ Below w.heap.size w w' := by
  have s1 : w.cell? ⟨g, 0, none⟩ = some (.slice a1 n1 c1) := h.out.ar.cell 0
  have s2 : w.cell? ⟨g, 1, none⟩ = some (.slice a2 n2 c2) := h.out.ar.cell 1
  have sl := h.out.ar.lt
  go_enter Tryz.func87, Tryz.ntmps87
  go_wp2_with fail
  go_loopw [3, 11] (fun s i wr => ∃ k : Nat, k ≤ 2 ∧ i = .int .i64 k ∧ s = .int .i64 (if k = 0 then 0 else if k = 1 then (n1 : Int) else n1 + n2) ∧ w = wr) (fun _ i _ => (2 - intOf i).toNat)
  case atStart => exact ⟨0, by omega, rfl, rfl, rfl⟩
  case round =>
    obtain ⟨k, k1, rfl, rfl, rfl⟩ := hrel
    rcases (show k = 0 ∨ k = 1 ∨ k = 2 by omega) with rfl | rfl | rfl
    · go_wp2_with fail
      exact ⟨⟨1, by omega, rfl, rfl, trivial⟩, by simp [intOf]⟩
    · go_wp2_with fail
      exact ⟨⟨2, by omega, rfl, rfl, trivial⟩, by simp [intOf]⟩
    · have hgr := grow33_c (n1 + n2) w (by omega) (by omega)
      rw [Int.natCast_add] at hgr
      go_wp2_with fail
      refine hgr.mono ?_
      rintro e w1 ⟨v, rfl, ho, hb⟩
      have HB : Hid (CnBox w w1 v ([] : List ByteArray)) := Lib.hid ⟨hb, ho⟩
      clear ho hb s1 s2 sl hgr
      go_wp2_with fail
      go_loopw [6, 27] (fun o i w3 => ∃ (k : Nat) (v : Value), v = o ∧ k ≤ 2 ∧ i = .int .i64 k ∧ Hid (CnBox w w3 v (if k = 0 then [] else if k = 1 then l1 else l1 ++ l2))) (fun _ i _ => (2 - intOf i).toNat)
      case atStart => exact ⟨0, _, rfl, by omega, rfl, HB⟩
      case round =>
        clear HB
        obtain ⟨k, v, rfl, k1, rfl, HB⟩ := hrel
        have HT := Lib.hid (h.out.below HB.out.bel)
        have s1 : wr.cell? ⟨g, 0, none⟩ = some (.slice a1 n1 c1) := HT.out.ar.cell 0
        have s2 : wr.cell? ⟨g, 1, none⟩ = some (.slice a2 n2 c2) := HT.out.ar.cell 1
        have sl := HT.out.ar.lt
        rcases (show k = 0 ∨ k = 1 ∨ k = 2 by omega) with rfl | rfl | rfl
        · have HB0 : Hid (CnBox w wr v []) := HB
          have SM : Hid (((strRows []).length + (strRows l1).length) * 16 ≤ 140737488355328) := Lib.hid (by have := e1.out; simp [strRows]; omega)
          clear HB
          go_wp2_with (first | (at_builtin; refine own_cat 40 9 rfl _ _ rfl Tryz.underlying40 info9 rfl (by decide) (by decide) v rfl (.slice a1 n1 c1) (strRows l1) rfl (str_one _) HB0.out.own HT.out.o1 HB0.out.bel.size SM.out ?_; intro v1 w4 ho hg _; have HN := Lib.hid (CnBox.cat HB0.out (by simpa [strRows] using ho) hg); clear ho hg))
          exact ⟨⟨1, v1, rfl, by omega, rfl, HN⟩, by simp [intOf]⟩
        · have HB0 : Hid (CnBox w wr v l1) := HB
          have SM : Hid (((strRows l1).length + (strRows l2).length) * 16 ≤ 140737488355328) := Lib.hid (by have := e1.out; have := e2.out; simp [strRows]; omega)
          clear HB
          go_wp2_with (first | (at_builtin; refine own_cat 40 9 rfl _ _ rfl Tryz.underlying40 info9 rfl (by decide) (by decide) v rfl (.slice a2 n2 c2) (strRows l2) rfl (str_one _) HB0.out.own HT.out.o2 HB0.out.bel.size SM.out ?_; intro v1 w4 ho hg _; have HN := Lib.hid (CnBox.cat (l2 := l1 ++ l2) HB0.out (by simpa [strRows] using ho) hg); clear ho hg))
          exact ⟨⟨2, v1, rfl, by omega, rfl, HN⟩, by simp [intOf]⟩
        · have HB0 : Hid (CnBox w wr v (l1 ++ l2)) := HB
          clear HB
          go_wp2_with fail
          go_ret
          exact ⟨v, rfl, HB0.out.own, HB0.out.bel⟩
end Go.Proofs.YtdgaflcnigljlaaGreatDoor
/-
  Contract of package builtin: there are thirty-three names. No further condition.
-/
namespace Go.Proofs.YtdgaflcnigljlaaGreatDoor
open Go.RowKit Go.Proofs Go.MapKept Go.Proofs.YtdgaflcnigljlaaGreatDoorW.PrintWords
set_option linter.unusedVariables false
/-- What Names keeps: the catalogue's blocks lie at W1, where its own begin. -/
structure NmBox (w W1 W : World) (gb g1 g2 : Nat) (v1 v2 : Value) (l1 l2 : List ByteArray) : Prop where
  bel : Below w.heap.size w W
  bel1 : Below W1.heap.size W1 W
  box : Blk W gb #[.int .i64 biCat.free, .slice (some ⟨g1, 0, none⟩) 8 8, .slice (some ⟨g2, 0, none⟩) 25 25] 25
  o1 : Own W W1.heap.size 9 1 v1 (strRows l1)
  o2 : Own W W1.heap.size 9 1 v2 (strRows l2)
  ap : ∀ b, v1.ownBlock = some b → v2.ownBlock ≠ some b
theorem NmBox.below {w W1 W W2 : World} {gb g1 g2 : Nat} {v1 v2 : Value} {l1 l2 : List ByteArray} (h : NmBox w W1 W gb g1 g2 v1 v2 l1 l2) (hb : Below W.heap.size W W2) : NmBox w W1 W2 gb g1 g2 v1 v2 l1 l2 :=
  ⟨below_then h.bel h.bel.size hb, below_then h.bel1 h.bel1.size hb, h.box.below hb, h.o1.below hb, h.o2.below hb, h.ap⟩
theorem NmBox.app1 {w W1 W W2 : World} {gb g1 g2 : Nat} {v1 v2 v : Value} {l1 l2 : List ByteArray} {s : ByteArray} (h : NmBox w W1 W gb g1 g2 v1 v2 l1 l2) (hw : w.heap.size ≤ W1.heap.size) (ho : Own W2 W1.heap.size 9 1 v (strRows l1 ++ [#[.string s]])) (hb : Below W1.heap.size W W2) (hg : W.grownBy W2 v1.ownBlock) (hat : v.ownBlock = v1.ownBlock ∨ ∃ b, v.ownBlock = some b ∧ W.heap.size ≤ b) : NmBox w W1 W2 gb g1 g2 v v2 (l1 ++ [s]) l2 := by
  refine ⟨h.bel.trans (hb.mono hw), h.bel1.trans hb, h.box.grown hg (h.o1.ne_blk h.box (by decide)), by rw [strRows_snoc]; exact ho, h.o2.kept hg ?_, fun b hb' hb2 => ?_⟩
  · cases e : v2.ownBlock with
    | none => exact .inl rfl
    | some b => exact .inr fun e2 => h.ap b e2.symm e
  · rcases hat with hat | ⟨b', hb', hle⟩
    · rw [hat] at hb'; exact h.ap b hb' hb2
    · rename_i hx
      rw [hb'] at hx
      cases hx
      have := (h.o2.block _ hb2).2
      omega
theorem NmBox.app2 {w W1 W W2 : World} {gb g1 g2 : Nat} {v1 v2 v : Value} {l1 l2 : List ByteArray} {s : ByteArray} (h : NmBox w W1 W gb g1 g2 v1 v2 l1 l2) (hw : w.heap.size ≤ W1.heap.size) (ho : Own W2 W1.heap.size 9 1 v (strRows l2 ++ [#[.string s]])) (hb : Below W1.heap.size W W2) (hg : W.grownBy W2 v2.ownBlock) (hat : v.ownBlock = v2.ownBlock ∨ ∃ b, v.ownBlock = some b ∧ W.heap.size ≤ b) : NmBox w W1 W2 gb g1 g2 v1 v l1 (l2 ++ [s]) := by
  refine ⟨h.bel.trans (hb.mono hw), h.bel1.trans hb, h.box.grown hg (h.o2.ne_blk h.box (by decide)), h.o1.kept hg ?_, by rw [strRows_snoc]; exact ho, fun b hb' hb2 => ?_⟩
  · cases e : v1.ownBlock with
    | none => exact .inl rfl
    | some b => exact .inr fun e2 => h.ap b e e2.symm
  · rcases hat with hat | ⟨b', hb'', hle⟩
    · rw [hat] at hb2; exact h.ap b hb' hb2
    · rw [hb''] at hb2
      cases hb2
      have := (h.o1.block _ hb').2
      omega
theorem len33 {w : World} {b : Nat} {A : Option Addr} {n c : Nat} (h : Own w b 9 1 (.slice A n c) (strRows ((biSeas.take 8).map Sea.id ++ (biFeas.take 25).map Fea.id))) : n = 33 := by
  obtain ⟨A', c', he, _⟩ := h.form
  simp only [Value.slice.injEq] at he
  exact he.2.1
set_option maxRecDepth 20000 in
set_option maxHeartbeats 1000000 in
theorem names_c (w : World) : Calls Tryz.prog 28 #[] w fun e w' => ∃ A c, e = .returned (.slice A 33 c) ∧ Below w.heap.size w w' := by
  go_enter Tryz.func28, Tryz.ntmps28
  go_wp2_with (first | (go_at_call 56; with_reducible refine (bicat_c _).mono ?_; rintro e w1 ⟨g1, g2, rfl, hI, hw⟩; have HI := Lib.hid hI; have HW := Lib.hid hw; clear hI hw))
  have HC := Lib.hid (HI.out.below ((Below.refl _ _).alloc (Nat.le_refl _) (.cells #[.int .i64 biCat.free, .slice (some ⟨g1, 0, none⟩) 8 8, .slice (some ⟨g2, 0, none⟩) 25 25] 25)))
  have HL := Lib.hid (HW.out.alloc HW.out.size (.cells #[.int .i64 biCat.free, .slice (some ⟨g1, 0, none⟩) 8 8, .slice (some ⟨g2, 0, none⟩) 25 25] 25))
  have HX := Lib.hid (Blk.new w1 #[.int .i64 biCat.free, .slice (some ⟨g1, 0, none⟩) 8 8, .slice (some ⟨g2, 0, none⟩) 25 25] 25)
  generalize w1.alloc (.cells #[.int .i64 biCat.free, .slice (some ⟨g1, 0, none⟩) 8 8, .slice (some ⟨g2, 0, none⟩) 25 25] 25) = W1 at *
  generalize w1.heap.size = gb at *
  have HB : Hid (NmBox w W1 W1 gb g1 g2 (.slice none 0 0) (.slice none 0 0) ((biSeas.take 0).map Sea.id) ((biFeas.take 0).map Fea.id)) := Lib.hid ⟨HL.out, Below.refl _ _, HX.out, Own.nil _ _ _ _, Own.nil _ _ _ _, fun b hb => by cases hb⟩
  have hw1 := HL.out.size
  go_loopw [2, 12] (fun o i wr => ∃ (k : Nat) (v : Value), v = o ∧ k ≤ 8 ∧ i = .int .i64 k ∧ Hid (NmBox w W1 wr gb g1 g2 v (.slice none 0 0) ((biSeas.take k).map Sea.id) ((biFeas.take 0).map Fea.id))) (fun _ i _ => (8 - intOf i).toNat)
  case atStart => exact ⟨0, _, rfl, by omega, rfl, HB⟩
  case round =>
    clear HB
    obtain ⟨k, v, rfl, k1, rfl, HB⟩ := hrel
    by_cases hk : k < 8
    · obtain ⟨s, hs⟩ : ∃ s, biSeas[k]? = some s := ⟨_, List.getElem?_eq_getElem (by have : biSeas.length = 8 := rfl; omega)⟩
      have TK := Lib.hid (take_map Sea.id hs)
      obtain ⟨ad, ha, hr⟩ := (HC.out.sea.below HB.out.bel1) k s.cells (by rw [List.getElem?_map, show biCat.seas = biSeas from rfl, hs]; rfl)
      obtain ⟨a0, a1, a2, a3, a4, a5, a6, a7, a8⟩ := RowIs.nine hr
      have plt := hr.lt rfl
      cases ha
      simp only [Addr.add_lit, Nat.zero_add] at a0 a1 a2 a3 a4 a5 a6 a7 a8 plt
      have SM : Hid (((strRows ((biSeas.take k).map Sea.id)).length + 1) * 16 ≤ 140737488355328) := Lib.hid (by simp [strRows]; omega)
      have hk' : (k : Int) < 8 := by omega
      have HN0 := Lib.hid (HB.out.below ((Below.refl _ _).alloc (Nat.le_refl _) (.cells s.cells 67)))
      clear hr hs
      simp only [Sea.cells] at HN0
      go_upto_region 6 with fail
      have HQ := Lib.hid (Blk.new wr #[.string s.id, .int .i64 s.sun, .int .i64 s.wk, .int .i64 s.st.k, .int .i64 s.st.m, .int .i64 s.st.d, .int .i64 s.st.o, .int .i64 s.st.wd, .int .i64 s.st.c] 67)
      generalize wr.alloc (.cells #[.string s.id, .int .i64 s.sun, .int .i64 s.wk, .int .i64 s.st.k, .int .i64 s.st.m, .int .i64 s.st.d, .int .i64 s.st.o, .int .i64 s.st.wd, .int .i64 s.st.c] 67) = W5 at *
      generalize wr.heap.size = q at *
      have q0 : W5.cell? ⟨q, 0, none⟩ = some (.string s.id) := HQ.out.cell 0
      have ql := HQ.out.lt
      go_wp2_with (first | (at_builtin; refine own_app (w0 := W5) 40 9 rfl _ _ rfl Tryz.underlying40 info9 rfl (by decide) (by decide) v rfl #[_] rfl rfl (by simp [Value.oneCell']) HN0.out.o1 (Below.refl _ _) HN0.out.bel1.size SM.out ?_; intro v2 w6 ho hb hg hat; have HN := Lib.hid (HN0.out.app1 hw1 ho hb hg hat); clear ho hb hg hat))
      exact ⟨⟨k + 1, v2, rfl, by omega, by go_num, Lib.hid (by rw [← TK.out]; exact HN.out)⟩, by simp [intOf]; omega⟩
    · have K8 := Lib.hid (show k = 8 by omega)
      have x2 : wr.cell? ⟨gb, 2, none⟩ = some (.slice (some ⟨g2, 0, none⟩) 25 25) := HB.out.box.cell 2
      have xl := HB.out.box.lt
      go_wp2_with fail
      clear x2 xl
      go_loopw [3, 25] (fun o i wr => ∃ (j : Nat) (v2 : Value), v2 = o ∧ j ≤ 25 ∧ i = .int .i64 j ∧ Hid (NmBox w W1 wr gb g1 g2 v v2 ((biSeas.take k).map Sea.id) ((biFeas.take j).map Fea.id))) (fun _ i _ => (25 - intOf i).toNat)
      case atStart => exact ⟨0, _, rfl, by omega, rfl, HB⟩
      case round =>
        clear HB
        obtain ⟨j, v2, rfl, j1, rfl, HB⟩ := hrel
        by_cases hj : j < 25
        · obtain ⟨s, hs⟩ : ∃ s, biFeas[j]? = some s := ⟨_, List.getElem?_eq_getElem (by have : biFeas.length = 25 := rfl; omega)⟩
          have TK := Lib.hid (take_map Fea.id hs)
          obtain ⟨ad, ha, hr⟩ := (HC.out.fea.below HB.out.bel1) j s.cells (by rw [List.getElem?_map, show biCat.feas = biFeas from rfl, hs]; rfl)
          obtain ⟨a0, a1, a2, a3, a4, a5, a6, a7, a8⟩ := RowIs.nine hr
          have plt := hr.lt rfl
          cases ha
          simp only [Addr.add_lit, Nat.zero_add] at a0 a1 a2 a3 a4 a5 a6 a7 a8 plt
          have SM : Hid (((strRows ((biFeas.take j).map Fea.id)).length + 1) * 16 ≤ 140737488355328) := Lib.hid (by simp [strRows]; omega)
          have hj' : (j : Int) < 25 := by omega
          have HN0 := Lib.hid (HB.out.below ((Below.refl _ _).alloc (Nat.le_refl _) (.cells s.cells 63)))
          clear hr hs
          simp only [Fea.cells] at HN0
          go_upto_region 11 with fail
          have HQ := Lib.hid (Blk.new wr #[.string s.id, .int .i64 s.rank, .int .i64 s.pol, .int .i64 s.at_.k, .int .i64 s.at_.m, .int .i64 s.at_.d, .int .i64 s.at_.o, .int .i64 s.at_.wd, .int .i64 s.at_.c] 63)
          generalize wr.alloc (.cells #[.string s.id, .int .i64 s.rank, .int .i64 s.pol, .int .i64 s.at_.k, .int .i64 s.at_.m, .int .i64 s.at_.d, .int .i64 s.at_.o, .int .i64 s.at_.wd, .int .i64 s.at_.c] 63) = W5 at *
          generalize wr.heap.size = q at *
          have q0 : W5.cell? ⟨q, 0, none⟩ = some (.string s.id) := HQ.out.cell 0
          have ql := HQ.out.lt
          go_wp2_with (first | (at_builtin; refine own_app (w0 := W5) 40 9 rfl _ _ rfl Tryz.underlying40 info9 rfl (by decide) (by decide) v2 rfl #[_] rfl rfl (by simp [Value.oneCell']) HN0.out.o2 (Below.refl _ _) HN0.out.bel1.size SM.out ?_; intro v3 w6 ho hb hg hat; have HN := Lib.hid (HN0.out.app2 hw1 ho hb hg hat); clear ho hb hg hat))
          go_roundw
          case rel => exact ⟨j + 1, v3, rfl, by omega, by go_num, Lib.hid (by rw [← TK.out]; exact HN.out)⟩
          case measure => simp [intOf]; omega
        · obtain rfl : j = 25 := by omega
          have k8 := K8.out
          subst k8
          obtain ⟨p1, m1, c1, rfl⟩ := HB.out.o1.named
          obtain ⟨p2, m2, c2, rfl⟩ := HB.out.o2.named
          have E1 : Hid (m1 = ((biSeas.take 8).map Sea.id).length) := Lib.hid (by
            obtain ⟨A, c, he, _⟩ := HB.out.o1.form
            simp only [Value.slice.injEq, strRows, List.length_map] at he ⊢
            exact he.2.1)
          have E2 : Hid (m2 = ((biFeas.take 25).map Fea.id).length) := Lib.hid (by
            obtain ⟨A, c, he, _⟩ := HB.out.o2.form
            simp only [Value.slice.injEq, strRows, List.length_map] at he ⊢
            exact he.2.1)
          have M1 : m1 = 8 := E1.out
          have M2 : m2 = 25 := E2.out
          subst M1 M2
          have HT : Hid (TwoIn (wr.alloc (.cells #[.slice p1 8 c1, .slice p2 25 c2] 40)) wr.heap.size (.slice p1 8 c1) (.slice p2 25 c2) ((biSeas.take 8).map Sea.id) ((biFeas.take 25).map Fea.id)) := Lib.hid ⟨Blk.new _ _ _, (HB.out.o1.less (Nat.zero_le _)).alloc _, (HB.out.o2.less (Nat.zero_le _)).alloc _⟩
          have HA := Lib.hid (HB.out.bel.alloc HB.out.bel.size (.cells #[.slice p1 8 c1, .slice p2 25 c2] 40))
          go_wp2_with (first | (go_at_call 57; go_in) | (go_at_call 87; with_reducible refine (concat_c _ p1 p2 8 25 c1 c2 _ _ _ HT E1 E2 (by decide) (by decide) (by decide)).mono ?_; rintro e w7 ⟨v7, rfl, ho, hb⟩; obtain ⟨A, n, c, rfl⟩ := ho.named; have N33 := Lib.hid (len33 ho); have HZ := Lib.hid (below_then HA.out HA.out.size hb); clear hb))
          go_ret
          obtain rfl := N33.out
          exact ⟨A, c, rfl, HZ.out⟩
end Go.Proofs.YtdgaflcnigljlaaGreatDoor
/-
  Plain laws: a day's outcome by insertion; the built-in catalogue's calendar of 2024. No further condition.
-/
namespace Go.Proofs.YtdgaflcnigljlaaGreatDoor
open Go.RowKit Go.Proofs Go.MapKept Go.Proofs.YtdgaflcnigljlaaGreatDoorW.PrintWords
set_option linter.unusedVariables false
def insC (x : Cand) : List Cand → List Cand
  | [] => [x]
  | y :: l => if Prec y x then y :: insC x l else x :: y :: l
def iSort (l : List Cand) : List Cand := l.foldr insC []
theorem insC_perm (x : Cand) (l : List Cand) : (insC x l).Perm (x :: l) := by
  induction l with
  | nil => exact List.Perm.refl _
  | cons y l ih =>
    unfold insC
    split
    · exact (ih.cons y).trans (List.Perm.swap x y l)
    · exact List.Perm.refl _
theorem iSort_perm (l : List Cand) : (iSort l).Perm l := by
  induction l with
  | nil => exact List.Perm.refl _
  | cons x l ih => exact (insC_perm x _).trans (ih.cons x)
theorem Prec.tr {a b c : Cand} (h : Prec a b) (g : Prec b c) : Prec a c := by unfold Prec at *; omega
theorem insC_ord {x : Cand} {l : List Cand} (h : l.Pairwise Prec) (ht : ∀ y ∈ l, Prec y x ∨ Prec x y) : (insC x l).Pairwise Prec := by
  induction l with
  | nil => exact List.pairwise_cons.2 ⟨fun _ h => (by cases h), List.Pairwise.nil⟩
  | cons y l ih =>
    obtain ⟨h1, h2⟩ := List.pairwise_cons.1 h
    unfold insC
    split
    · rename_i hc
      refine List.pairwise_cons.2 ⟨fun z hz => ?_, ih h2 (fun z hz => ht z (.tail _ hz))⟩
      rcases List.mem_cons.1 ((insC_perm x l).mem_iff.1 hz) with rfl | hz
      · exact hc
      · exact h1 z hz
    · rename_i hc
      have hx : Prec x y := (ht y (.head _)).resolve_left hc
      refine List.pairwise_cons.2 ⟨fun z hz => ?_, h⟩
      rcases List.mem_cons.1 hz with rfl | hz
      · exact hx
      · exact hx.tr (h1 z hz)
theorem iSort_ord {l : List Cand} (h : Tot l) : (iSort l).Pairwise Prec := by
  induction l with
  | nil => exact List.Pairwise.nil
  | cons x l ih =>
    obtain ⟨h1, h2⟩ := List.pairwise_cons.1 h
    refine insC_ord (ih h2) (fun y hy => ?_)
    exact (h1 y ((iSort_perm l).mem_iff.1 hy)).symm
theorem vSort_eq {l : List Cand} (h : Tot l) : vSort l = iSort l := (vSort_uniq (iSort_perm l) (iSort_ord h) h).symm
/-- The season's celebration, by the seasons' starts. -/
def cFind (S : List (Int × Int)) (first d : Int) : Int × Int := match best (S.filter fun p => decide (p.1 ≤ d)) with
  | some s => s
  | none => (first - 1, ((best S).getD (0, 0)).2)
def cSea (S : List (Int × Int)) (C : Cat) (first d : Int) : Sea := C.seas[(cFind S first d).2.toNat]?.getD noSea
def cTemp (S : List (Int × Int)) (C : Cat) (first d : Int) : Cand := ⟨1, (cFind S first d).2, if d % 7 = 0 then (cSea S C first d).sun else (cSea S C first d).wk, (cSea S C first d).id⟩
theorem cTemp_eq (C : Cat) (y d : Int) : vTemp C y d = cTemp (stL C y) C (vFirst y) d := rfl
/-- The feasts with their days. -/
def feL (C : Cat) (y : Int) : List (Int × Cand) := C.feas.zipIdx.map fun p => (p.1.at_.day y, ⟨2, p.2, p.1.rank, p.1.id⟩)
def cProp (R : List (Int × Cand)) (d : Int) : List Cand := R.filterMap fun q => if q.1 = d then some q.2 else none
theorem cProp_eq (C : Cat) (y d : Int) : vPropL C y C.feas.length d = cProp (feL C y) d := by
  unfold vPropL cProp feL
  rw [List.take_length, List.filterMap_map]
  rfl
def cLine (S : List (Int × Int)) (R : List (Int × Cand)) (C : Cat) (first : Int) (i : Nat) : List Cand := iSort (cTemp S C first (first + i) :: cProp R (first + i))
theorem cLine_eq (C : Cat) (y : Int) (i : Nat) : vLine C y i = cLine (stL C y) (feL C y) C (vFirst y) i := by
  unfold vLine cLine
  rw [vSort_eq (cands_tot C y _)]
  unfold vCands
  rw [cTemp_eq, cProp_eq]
def cRz (S : List (Int × Int)) (R : List (Int × Cand)) (C : Cat) (first : Int) (i : Nat) : Rz := ⟨F (cLine S R C first i) 0, vPol C 2 ((cLine S R C first i).drop 1), vPol C 3 ((cLine S R C first i).drop 1), vPol C 1 ((cLine S R C first i).drop 1)⟩
theorem cRz_eq (C : Cat) (y : Int) (i : Nat) : vRz C y i = cRz (stL C y) (feL C y) C (vFirst y) i := by
  unfold vRz cRz; rw [cLine_eq]
end Go.Proofs.YtdgaflcnigljlaaGreatDoor
/-
  Plain laws: the built-in catalogue's calendar of 2024. No further condition.
-/
namespace Go.Proofs.YtdgaflcnigljlaaGreatDoor
open Go.RowKit Go.Proofs Go.MapKept Go.Proofs.YtdgaflcnigljlaaGreatDoorW.PrintWords
set_option linter.unusedVariables false
def bS : List (Int × Int) := [(738893, 0), (738930, 1), (738969, 2), (738976, 3), (738984, 4), (739026, 5), (739221, 6), (739245, 7)]
def bR : List (Int × Cand) := [(738886, ⟨2, 0, 1, ⟨#[109, 97, 114, 121, 45, 109, 111, 116, 104, 101, 114, 45, 111, 102, 45, 103, 111, 100]⟩⟩),
  (738891, ⟨2, 1, 1, ⟨#[101, 112, 105, 112, 104, 97, 110, 121]⟩⟩),
  (738892, ⟨2, 2, 2, ⟨#[98, 97, 112, 116, 105, 115, 109, 45, 111, 102, 45, 116, 104, 101, 45, 108, 111, 114, 100]⟩⟩),
  (738910, ⟨2, 3, 4, ⟨#[99, 111, 110, 118, 101, 114, 115, 105, 111, 110, 45, 111, 102, 45, 112, 97, 117, 108]⟩⟩),
  (738918, ⟨2, 4, 2, ⟨#[112, 114, 101, 115, 101, 110, 116, 97, 116, 105, 111, 110]⟩⟩),
  (738938, ⟨2, 5, 4, ⟨#[99, 104, 97, 105, 114, 45, 111, 102, 45, 112, 101, 116, 101, 114]⟩⟩),
  (738964, ⟨2, 6, 1, ⟨#[106, 111, 115, 101, 112, 104]⟩⟩),
  (738970, ⟨2, 7, 1, ⟨#[97, 110, 110, 117, 110, 99, 105, 97, 116, 105, 111, 110]⟩⟩),
  (739015, ⟨2, 8, 1, ⟨#[97, 115, 99, 101, 110, 115, 105, 111, 110]⟩⟩),
  (739025, ⟨2, 9, 1, ⟨#[112, 101, 110, 116, 101, 99, 111, 115, 116]⟩⟩),
  (739032, ⟨2, 10, 1, ⟨#[116, 114, 105, 110, 105, 116, 121]⟩⟩),
  (739036, ⟨2, 11, 1, ⟨#[99, 111, 114, 112, 117, 115, 45, 99, 104, 114, 105, 115, 116, 105]⟩⟩),
  (739044, ⟨2, 12, 1, ⟨#[115, 97, 99, 114, 101, 100, 45, 104, 101, 97, 114, 116]⟩⟩),
  (739061, ⟨2, 13, 1, ⟨#[106, 111, 104, 110, 45, 98, 97, 112, 116, 105, 115, 116]⟩⟩),
  (739066, ⟨2, 14, 1, ⟨#[112, 101, 116, 101, 114, 45, 97, 110, 100, 45, 112, 97, 117, 108]⟩⟩),
  (739104, ⟨2, 15, 2, ⟨#[116, 114, 97, 110, 115, 102, 105, 103, 117, 114, 97, 116, 105, 111, 110]⟩⟩),
  (739113, ⟨2, 16, 1, ⟨#[97, 115, 115, 117, 109, 112, 116, 105, 111, 110]⟩⟩),
  (739143, ⟨2, 17, 2, ⟨#[101, 120, 97, 108, 116, 97, 116, 105, 111, 110, 45, 111, 102, 45, 116, 104, 101, 45, 99, 114, 111, 115, 115]⟩⟩),
  (739191, ⟨2, 18, 1, ⟨#[97, 108, 108, 45, 115, 97, 105, 110, 116, 115]⟩⟩),
  (739192, ⟨2, 19, 3, ⟨#[97, 108, 108, 45, 115, 111, 117, 108, 115]⟩⟩),
  (739214, ⟨2, 20, 1, ⟨#[99, 104, 114, 105, 115, 116, 45, 116, 104, 101, 45, 107, 105, 110, 103]⟩⟩),
  (739220, ⟨2, 21, 4, ⟨#[97, 110, 100, 114, 101, 119]⟩⟩),
  (739228, ⟨2, 22, 1, ⟨#[105, 109, 109, 97, 99, 117, 108, 97, 116, 101, 45, 99, 111, 110, 99, 101, 112, 116, 105, 111, 110]⟩⟩),
  (739245, ⟨2, 23, 1, ⟨#[110, 97, 116, 105, 118, 105, 116, 121]⟩⟩),
  (739246, ⟨2, 24, 4, ⟨#[115, 116, 101, 112, 104, 101, 110]⟩⟩)]
theorem bS_eq : stL biCat 2024 = bS := by kernel_rfl
theorem bR_eq : feL biCat 2024 = bR := by kernel_rfl
theorem bF_eq : vFirst 2024 = 738886 := by kernel_rfl
theorem bD_eq : vDays 2024 = 366 := by kernel_rfl
def bRz (i : Nat) : Rz := cRz bS bR biCat 738886 i
theorem bRz_eq (i : Nat) : vRz biCat 2024 i = bRz i := by rw [cRz_eq, bS_eq, bR_eq, bF_eq]; rfl
def bFr : List Bool := (List.range 366).map fun i => decide (5 < (bRz i).p.rank)
def bIm : List (List Int) := (List.range 366).map fun i => (bRz i).im
theorem bFr_eq : vFreeL biCat 2024 366 = bFr := by
  unfold vFreeL bFr
  refine List.map_congr_left fun i _ => ?_
  rw [bRz_eq]; rfl
theorem bIm_eq : vImpL biCat 2024 366 = bIm := by
  unfold vImpL bIm
  refine List.map_congr_left fun i _ => ?_
  rw [bRz_eq]
theorem bMv : vMoves biCat 2024 = some [⟨7, 84, 98⟩] := by
  unfold vMoves
  rw [bD_eq, bFr_eq, bIm_eq]
  kernel_rfl
def bL : List Mv := [⟨7, 84, 98⟩]
def bEn (i : Nat) : EntI := match vTake bL i with
  | none => ⟨(bRz i).p.kind, (bRz i).p.id, (bRz i).p.rank, 0, 0, 0, (bRz i).cm, (bRz i).om⟩
  | some m => ⟨3, (feaOf biCat m.feast).1, (feaOf biCat m.feast).2, vYear (738886 + m.src), mMon (738886 + m.src), mDay (738886 + m.src),
      if (bRz i).p.kind = 2 ∧ ¬ polOf biCat (bRz i).p.idx = 3 then (bRz i).p.idx :: (bRz i).cm else (bRz i).cm,
      if (bRz i).p.kind = 2 ∧ polOf biCat (bRz i).p.idx = 3 then (bRz i).p.idx :: (bRz i).om else (bRz i).om⟩
theorem bEn_eq (i : Nat) : vEnI biCat 2024 bL i = bEn i := by
  cases e : vTake bL i with
  | none => rw [en_none (by rw [e]; rfl), bRz_eq]; unfold bEn; rw [e]
  | some m => rw [en_some e, bRz_eq, bF_eq]; unfold bEn; rw [e]
theorem bMiss : (List.range 98).all (fun j => vMiss biCat (bEn j) vAnn) = true := by kernel_rfl
instance (s : ByteArray) : Decidable (IdOk s) := by unfold IdOk; infer_instance
instance (k m d o wd c : Int) : Decidable (AncOk k m d o wd c) := by unfold AncOk NthOk; infer_instance
def seaOkB (s : Sea) : Bool := decide (IdOk s.id) && (decide (1 ≤ s.sun) && (decide (s.sun ≤ 9) && (decide (1 ≤ s.wk) && (decide (s.wk ≤ 9) && decide (AncOk s.st.k s.st.m s.st.d s.st.o s.st.wd s.st.c)))))
def feaOkB (s : Fea) : Bool := decide (IdOk s.id) && (decide (1 ≤ s.rank) && (decide (s.rank ≤ 9) && (decide (1 ≤ s.pol) && (decide (s.pol ≤ 3) && decide (AncOk s.at_.k s.at_.m s.at_.d s.at_.o s.at_.wd s.at_.c)))))
theorem seaOk_of {s : Sea} (h : seaOkB s = true) : s.Ok := by
  simp only [seaOkB, Bool.and_eq_true, decide_eq_true_eq] at h
  exact ⟨h.1, h.2.1, h.2.2.1, h.2.2.2.1, h.2.2.2.2.1, h.2.2.2.2.2⟩
theorem feaOk_of {s : Fea} (h : feaOkB s = true) : s.Ok := by
  simp only [feaOkB, Bool.and_eq_true, decide_eq_true_eq] at h
  exact ⟨h.1, h.2.1, h.2.2.1, h.2.2.2.1, h.2.2.2.2.1, h.2.2.2.2.2⟩
theorem bSeas_ok : biSeas.all seaOkB = true := by kernel_rfl
theorem bFeas_ok : biFeas.all feaOkB = true := by kernel_rfl
/-- No two alike, by their bytes. -/
def dupB : List ByteArray → Bool
  | [] => true
  | a :: l => l.all (fun b => !sameB a b) && dupB l
theorem nodup_of {l : List ByteArray} (h : dupB l = true) : l.Nodup := by
  induction l with
  | nil => exact List.Pairwise.nil
  | cons a l ih =>
    simp only [dupB, Bool.and_eq_true, List.all_eq_true, Bool.not_eq_true'] at h
    refine List.pairwise_cons.2 ⟨fun b hb e => ?_, ih h.2⟩
    have := h.1 b hb
    rw [sameB_iff.2 e] at this
    cases this
theorem bGood : biCat.Good := by
  refine ⟨by decide, by decide, by decide, by decide, by decide, fun s hs => seaOk_of (List.all_eq_true.1 bSeas_ok s hs), fun s hs => feaOk_of (List.all_eq_true.1 bFeas_ok s hs), nodup_of (l := biCat.ids) (by kernel_rfl)⟩
theorem bi24 : Bi24 bL 98 := by
  refine ⟨bGood, bMv, by rw [bD_eq]; decide, ?_, ?_, fun j hj => ?_, ?_⟩
  · rw [bEn_eq, show (bEn 98).kind = 3 from by kernel_rfl]; decide
  · rw [bEn_eq]; kernel_rfl
  · rw [bEn_eq]; exact List.all_eq_true.1 bMiss j (List.mem_range.2 hj)
  · rw [bF_eq]; exact ⟨by kernel_rfl, by kernel_rfl, by kernel_rfl⟩
end Go.Proofs.YtdgaflcnigljlaaGreatDoor
/-
  Contracts of package linescan: the next byte; taking one. No further condition.
-/
namespace Go.Proofs.YtdgaflcnigljlaaGreatDoor
open Go.RowKit Go.Proofs Go.MapKept Go.Proofs.YtdgaflcnigljlaaGreatDoorW.PrintWords
set_option linter.unusedVariables false
@[reducible] def scC (S : ByteArray) (at_ : Int) : Array Value := #[.string S, .int .i64 at_, .bool false]
@[reducible] def BW (w : World) : World → Prop := fun W => Below w.heap.size w W
theorem next_in (s : Nat) (S : ByteArray) (i : Nat) (w : World) (h : Hid (Blk w s (scC S i) 133)) (hi : i < S.size) : Calls Tryz.prog 203 #[.pointer (some ⟨s, 0, none⟩)] w fun e w' => e = .returned (.tuple #[.int .u8 (bt S i), .bool true]) ∧ Below w.heap.size w w' := by
  have x0 : ∀ x : Of (fun W : World => Below w.heap.size w W), x.val.cell? ⟨s, 0, none⟩ = some (.string S) := fun x => (h.out.below x.ok).cell 0
  have x1 : ∀ x : Of (fun W : World => Below w.heap.size w W), x.val.cell? ⟨s, 1, none⟩ = some (.int .i64 i) := fun x => (h.out.below x.ok).cell 1
  have t0 : decide ((S.size : Int) ≤ (i : Int)) = false := by simp; omega
  have hi' : (i : Int) < S.size := by omega
  have D1 : Below w.heap.size w w.drew := (Below.refl _ _).drew
  have hb := bt_at S (i : Int) (by simpa using hi)
  go_enter Tryz.func203, Tryz.ntmps203
  go_wp2_with fail
  refine wp_region_cls (C := fun W : World => Below w.heap.size w W) (by kernel_rfl) (by kernel_rfl) D1 ?_
  haveI : Nonempty (Of (fun W : World => Below w.heap.size w W)) := ⟨⟨_, D1⟩⟩
  repeat go_big_quiet_step (fail)
  refine wpQuiet_nil ?_
  rintro _ ⟨w5, rfl⟩
  go_wp2_with fail
  refine wp_region_cls (C := fun W : World => Below w.heap.size w W) (by kernel_rfl) (by kernel_rfl) w5.ok.drew ?_
  repeat go_big_quiet_step (fail)
  refine wpQuiet_nil ?_
  rintro _ ⟨w6, rfl⟩
  go_wp2_with fail
  go_ret2
  exact ⟨by rw [← hb]; rfl, w6.ok⟩
set_option maxHeartbeats 1000000 in
theorem take_c (s : Nat) (S : ByteArray) (i : Nat) (f : Nat) (caps : Array Value) (b : Bool) (w : World) (h : Hid (Blk w s (scC S i) 133)) (hi : i < S.size) (hs : S.size ≤ 1000000) (he : ∀ args W, (callFunc f args).run Tryz.prog W = .ok (.enter f args) W)
    (H : Hid (∀ W, Below w.heap.size w W → Calls Tryz.prog f (#[.int .u8 (bt S i)] ++ caps) W fun e w' => e = .returned (.bool b) ∧ Below W.heap.size W w')) :
    Calls Tryz.prog 161 #[.pointer (some ⟨s, 0, none⟩), .func (.func f) #[] caps] w fun e w' => e = .returned (.bool b) ∧ Blk w' s (scC S ((i : Int) + if b then 1 else 0)) 133 ∧ w.grownBy w' (some s) := by
  have HB := Lib.hid (Below.refl w.heap.size w)
  go_enter Tryz.func161, Tryz.ntmps161
  go_wp2_with (first | (go_at_call 203; with_reducible refine (next_in s S i _ h hi).mono ?_; rintro e w1 ⟨rfl, hw⟩; replace HB := Lib.hid hw; clear hw))
  refine (H.out _ HB.out).mono ?_
  rintro e w2 ⟨rfl, hw⟩
  have HB2 := Lib.hid (below_then HB.out HB.out.size hw)
  have HS := Lib.hid (h.out.below HB2.out)
  clear hw
  cases b with
  | false =>
    go_wp2_with fail
    go_ret
    exact ⟨rfl, by simpa using HS.out, gr_of s HB2.out⟩
  | true =>
    have x1 : w2.cell? ⟨s, 1, none⟩ = some (.int .i64 i) := HS.out.cell 1
    have f1 := HS.out.frozen 1
    have hi' : (i : Int) ≤ 1000000 := by omega
    go_wp2_with fail
    go_ret
    exact ⟨rfl, HS.out.put 1 _ rfl, (gr_of s HB2.out).trans (gs_set _ _ _ _)⟩
set_option maxHeartbeats 1000000 in
theorem must_c (s : Nat) (S : ByteArray) (i : Nat) (f : Nat) (caps : Array Value) (w : World) (h : Hid (Blk w s (scC S i) 133)) (hi : i < S.size) (hs : S.size ≤ 1000000) (he : ∀ args W, (callFunc f args).run Tryz.prog W = .ok (.enter f args) W)
    (H : Hid (∀ W, Below w.heap.size w W → Calls Tryz.prog f (#[.int .u8 (bt S i)] ++ caps) W fun e w' => e = .returned (.bool true) ∧ Below W.heap.size W w')) :
    Calls Tryz.prog 117 #[.pointer (some ⟨s, 0, none⟩), .func (.func f) #[] caps] w fun e w' => e = .returned (.tuple #[]) ∧ Blk w' s (scC S ((i : Int) + 1)) 133 ∧ w.grownBy w' (some s) := by
  go_enter Tryz.func117, Tryz.ntmps117
  go_wp2_with (first | (go_at_call 161; with_reducible refine (take_c s S i f caps true _ h hi hs he H).mono ?_; rintro e w1 ⟨rfl, h1, h2⟩; have H1 := Lib.hid h1; have H2 := Lib.hid h2; clear h1 h2))
  go_end0
  exact ⟨rfl, H1.out, H2.out⟩
end Go.Proofs.YtdgaflcnigljlaaGreatDoor
/-
  Contract of package linescan: a scan under guard that does not fail. No further condition.
-/
namespace Go.Proofs.YtdgaflcnigljlaaGreatDoor
open Go.RowKit Go.Proofs Go.MapKept Go.Proofs.YtdgaflcnigljlaaGreatDoorW.PrintWords
set_option linter.unusedVariables false
set_option maxRecDepth 20000 in
theorem guard1_idle (p q : Addr) (w : World) : CallsD Tryz.prog 160 #[.pointer (some p), .pointer (some q)] .returning w fun e u' w' => e = .returned (.tuple #[]) ∧ u' = .returning ∧ w' = w := by
  refine callsD_of_wpS Tryz.func160 rfl fun c₀ cs hu => ?_
  have hne : ∀ W : World, (binOp .neq 20 .nilIface .nilIface).run Tryz.prog W = .ok (.bool false) W := fun _ => rfl
  apply wpS_seq
  apply wpS_region
  simp [wpOpsS, go_sem, recoverD, hu, Tryz.ntmps160, Exit.thenS]
  apply wpS_seq
  apply wpS_region
  simp [wpOpsS, go_sem, hne, Exit.thenS]
  refine wpS_cond (t := false) (by simp [Act.eval, Array.replicate]) ?_
  simp only [Bool.false_eq_true, if_false]
  refine wpS_of_wp (wp_skip ?_)
  cases c₀
  simp_all [bodyPostS, results, Tryz.results160]
/-- Only blocks below a bound may differ. -/
structure Over (b : Nat) (W w' : World) : Prop where
  size : W.heap.size ≤ w'.heap.size
  block : ∀ k, b ≤ k → k < W.heap.size → w'.heap[k]? = W.heap[k]?
theorem Over.blk {b g : Nat} {W w' : World} {cs : Array Value} {t : TypeId} (h : Over b W w') (hb : Blk W g cs t) (hg : b ≤ g) : Blk w' g cs t := by
  have hl := hb.lt
  unfold Blk at *
  rw [h.block g hg hl, hb]
set_option maxRecDepth 20000 in
set_option maxHeartbeats 1000000 in
theorem guard_c (s : Nat) (S : ByteArray) (i : Int) (f : Nat) (caps : Array Value) (R : World → Prop) (w : World) (h : Hid (Blk w s (scC S i) 133)) (he : ∀ args W, (callFunc f args).run Tryz.prog W = .ok (.enter f args) W)
    (hR : Hid (∀ W1 W2, R W1 → Below w.heap.size W1 W2 → R W2))
    (H : Hid (∀ W, Below w.heap.size w W → Calls Tryz.prog f caps W fun e w' => e = .returned (.tuple #[]) ∧ R w' ∧ Over w.heap.size W w')) :
    Calls Tryz.prog 115 #[.pointer (some ⟨s, 0, none⟩), .func (.func f) #[] caps] w fun e w' => e = .returned (.bool true) ∧ R w' := by
  have hmf : ∀ (fn : Fn) (first cap : Array Value) (w : World), (Instr.makeFunc fn first cap).run Tryz.prog w = .ok (.func fn first cap) w := fun _ _ _ _ => rfl
  have hpe : ∀ (a : Addr) (W : World), (binOp .eql 104 (.pointer (some a)) (.pointer none)).run Tryz.prog W = .ok (.bool false) W := fun _ _ => rfl
  have HB : Hid (Below w.heap.size w ((w.alloc (.cells #[.pointer (some ⟨s, 0, none⟩)] 104)).alloc (.cells #[.bool false] 4))) := Lib.hid (((Below.refl _ _).alloc (Nat.le_refl _) _).alloc (by simp) _)
  have HX : Hid (Blk ((w.alloc (.cells #[.pointer (some ⟨s, 0, none⟩)] 104)).alloc (.cells #[.bool false] 4)) w.heap.size #[.pointer (some ⟨s, 0, none⟩)] 104) := Lib.hid ((Blk.new _ _ _).alloc _)
  have HK : Hid (Blk ((w.alloc (.cells #[.pointer (some ⟨s, 0, none⟩)] 104)).alloc (.cells #[.bool false] 4)) (w.heap.size + 1) #[.bool false] 4) := Lib.hid (Blk.new2 _ _ _ _)
  have x2 : w.cell? ⟨s, 2, none⟩ = some (.bool false) := h.out.cell 2
  have sl := h.out.lt
  go_enter_defers Tryz.func115, Tryz.ntmps115
  go_wp2_with fail
  refine (H.out _ HB.out).mono ?_
  rintro e w2 ⟨rfl, hr, ho⟩
  have HR1 := Lib.hid hr
  have HK2 := Lib.hid (ho.blk HK.out (Nat.le_succ _))
  clear hr ho x2 sl
  have z0 : w2.cell? ⟨w.heap.size + 1, 0, none⟩ = some (.bool false) := HK2.out.cell 0
  have zf := HK2.out.frozen 0
  go_wp2_with fail
  refine leaves_cons (f := 160) (args := #[.pointer (some ⟨w.heap.size, 0, none⟩), .pointer (some ⟨w.heap.size + 1, 0, none⟩)]) (by simp) (by simp [go_sem]) ?_
  refine (guard1_idle ⟨w.heap.size, 0, none⟩ ⟨w.heap.size + 1, 0, none⟩ _).mono ?_
  rintro e u' w'' ⟨rfl, rfl, rfl⟩
  have HF := HK2.out.put 0 (.bool true) (cs' := #[.bool true]) rfl
  have y0 : (w2.setCell ⟨w.heap.size + 1, 0, none⟩ (.bool true)).cell? ⟨w.heap.size + 1, 0, none⟩ = some (.bool true) := HF.cell 0
  refine ⟨.bool true, ?_, rfl, hR.out _ _ HR1.out ((Below.refl _ _).setCell (Nat.le_succ _) _)⟩
  simp [results, Tryz.results115, go_sem, y0]
end Go.Proofs.YtdgaflcnigljlaaGreatDoor
/-
  Contract of package linescan: the condition on a byte under Word. No further condition.
-/
namespace Go.Proofs.YtdgaflcnigljlaaGreatDoor
open Go.RowKit Go.Proofs Go.MapKept Go.Proofs.YtdgaflcnigljlaaGreatDoorW.PrintWords
set_option linter.unusedVariables false
/-- What Word's closures read. -/
structure WdIn (W : World) (s xb wb nb fb : Nat) (S : ByteArray) (a k : Nat) (v : Value) (ws : List ByteArray) : Prop where
  sc : Blk W s (scC S ((a : Int) + k)) 133
  x : Blk W xb #[.pointer (some ⟨s, 0, none⟩)] 104
  wd : Blk W wb #[v] 40
  n : Blk W nb #[.int .i64 k] 3
  fr : Blk W fb #[.int .i64 a] 3
  ws : Own W 0 9 1 v (strRows ws)
theorem WdIn.below {W W2 : World} {s xb wb nb fb : Nat} {S : ByteArray} {a k : Nat} {v : Value} {ws : List ByteArray} (h : WdIn W s xb wb nb fb S a k v ws) (hb : Below W.heap.size W W2) : WdIn W2 s xb wb nb fb S a k v ws := ⟨h.sc.below hb, h.x.below hb, h.wd.below hb, h.n.below hb, h.fr.below hb, h.ws.below hb⟩
/-- Does a word go on with a byte behind what has been read? -/
def wMatch (S : ByteArray) (a k : Nat) (c : Int) (t : ByteArray) : Prop := k < t.size ∧ bt t k = c ∧ t.extract 0 k = S.extract a (a + k)
set_option maxRecDepth 20000 in
set_option maxHeartbeats 1000000 in
theorem word11_c (s xb wb nb fb : Nat) (S : ByteArray) (a k : Nat) (v : Value) (ws : List ByteArray) (j : Nat) (t : ByteArray) (c : Int) (w : World) (h : Hid (WdIn w s xb wb nb fb S a k v ws)) (hj : Hid (ws[j]? = some t)) (hm : Hid (wMatch S a k c t)) (hn : Hid (∀ i u, i < j → ws[i]? = some u → ¬ wMatch S a k c u)) (hS : a + k ≤ S.size) (hS2 : S.size ≤ 1000000) (hws : ws.length ≤ 1000) :
    Calls Tryz.prog 118 #[.int .u8 c, .pointer (some ⟨wb, 0, none⟩), .pointer (some ⟨nb, 0, none⟩), .pointer (some ⟨xb, 0, none⟩), .pointer (some ⟨fb, 0, none⟩)] w fun e w' => e = .returned (.bool true) ∧ Below w.heap.size w w' := by
  obtain ⟨gv, cv, rfl⟩ : ∃ gv cv, v = .slice (some ⟨gv, 0, none⟩) ws.length cv := by
    obtain ⟨g', cap, he, _⟩ := h.out.ws.cell (k := j) (cs := #[.string t]) (by simp [strRows, hj.out])
    exact ⟨g', cap, by rw [he]; simp [strRows]⟩
  have HB := Lib.hid (Below.refl w.heap.size w)
  have x0 : w.cell? ⟨wb, 0, none⟩ = some (.slice (some ⟨gv, 0, none⟩) ws.length cv) := h.out.wd.cell 0
  have xl := h.out.wd.lt
  go_enter Tryz.func118, Tryz.ntmps118
  go_wp2_with fail
  go_loopw [11] (fun i wr => ∃ q : Nat, q ≤ j ∧ i = .int .i64 q ∧ Hid (Below w.heap.size w wr)) (fun i _ => (ws.length - intOf i).toNat)
  case atStart => exact ⟨0, by omega, rfl, HB⟩
  case round =>
    clear HB x0 xl
    obtain ⟨q, q1, rfl, HB⟩ := hrel
    have HI := Lib.hid (h.out.below HB.out)
    have jl : j < ws.length := (List.getElem?_eq_some_iff.1 hj.out).1
    obtain ⟨u, hu⟩ : ∃ u, ws[q]? = some u := ⟨_, List.getElem?_eq_getElem (by omega)⟩
    have cu := HI.out.ws.at1 (g := gv) rfl q (.string u) (by simp [strRows, hu])
    have gl := (HI.out.ws.block gv rfl).2
    have HU := Lib.hid hu
    have ql : (q : Int) < ws.length := by omega
    clear hu
    by_cases hq : q = j
    · subst hq
      have hut : u = t := by have h1 := HU.out; have h2 := hj.out; rw [h1] at h2; exact Option.some.inj h2
      subst hut
      go_upto_region 4 with fail
      obtain ⟨m1, m2, m3⟩ := hm.out
      have hb := bt_at u (k : Int) (by simpa using m1)
      rw [m2] at hb
      simp only [Int.toNat_natCast] at hb
      have D1 : Below w.heap.size w wr.drew := HB.out.drew
      have g0 : ∀ x : Of (fun W : World => Below w.heap.size w W), x.val.cell? ⟨nb, 0, none⟩ = some (.int .i64 k) := fun x => (h.out.n.below x.ok).cell 0
      have g1 : ∀ x : Of (fun W : World => Below w.heap.size w W), x.val.cell? ⟨xb, 0, none⟩ = some (.pointer (some ⟨s, 0, none⟩)) := fun x => (h.out.x.below x.ok).cell 0
      have g2 : ∀ x : Of (fun W : World => Below w.heap.size w W), x.val.cell? ⟨s, 0, none⟩ = some (.string S) := fun x => (h.out.sc.below x.ok).cell 0
      have g3 : ∀ x : Of (fun W : World => Below w.heap.size w W), x.val.cell? ⟨s, 1, none⟩ = some (.int .i64 ((a : Int) + k)) := fun x => (h.out.sc.below x.ok).cell 1
      have g4 : ∀ x : Of (fun W : World => Below w.heap.size w W), x.val.cell? ⟨fb, 0, none⟩ = some (.int .i64 a) := fun x => (h.out.fr.below x.ok).cell 0
      have t1 : decide ((k : Int) < (u.size : Int)) = true := by simpa using m1
      have m1' : (k : Int) < u.size := by omega
      have hS' : (a : Int) + k ≤ S.size := by omega
      have hsl : ∀ wx : World, (Instr.slice 9 (.string S) (some (.int .i64 (a : Int))) (some (.int .i64 ((a : Int) + k))) none).run Tryz.prog wx = .ok (.string (S.extract a (a + k))) wx := fun wx => by
        have := run_slice_string (P := Tryz.prog) wx 9 S .i64 .i64 (a : Int) ((a : Int) + k) Tryz.underlying9 (by omega) (by omega) (by omega)
        have e2 : ((a : Int) + k).toNat = a + k := by omega
        rw [e2] at this; simpa using this
      have m3' := congrArg ByteArray.toList m3
      have m4' : (u.extract 0 k == S.extract a (a + k)) = true := (bytes_beq _ _).2 m3
      refine wp_region_cls (C := fun W : World => Below w.heap.size w W) (by kernel_rfl) (by kernel_rfl) D1 ?_
      haveI : Nonempty (Of (fun W : World => Below w.heap.size w W)) := ⟨⟨_, D1⟩⟩
      repeat go_big_quiet_step (fail)
      refine wpQuiet_nil ?_
      intro W' hw'
      obtain ⟨x, rfl⟩ := hw'
      have hx := x.ok
      go_wp2_with fail
      refine bodyPost_ret (v := .bool true) ?_ rfl ⟨rfl, hx⟩
      simp [results, Tryz.results118]
    · have hq2 : q < j := by omega
      have hne : ¬ k < u.size ∨ (k < u.size ∧ bt u k ≠ c) ∨ (k < u.size ∧ bt u k = c ∧ u.extract 0 k ≠ S.extract a (a + k)) := by
        have h0 := hn.out q u hq2 HU.out
        unfold wMatch at h0
        by_cases z1 : k < u.size
        · by_cases z2 : bt u k = c
          · exact .inr (.inr ⟨z1, z2, fun z3 => h0 ⟨z1, z2, z3⟩⟩)
          · exact .inr (.inl ⟨z1, z2⟩)
        · exact .inl z1
      go_upto_region 4 with fail
      have D1 : Below w.heap.size w wr.drew := HB.out.drew
      have g0 : ∀ x : Of (fun W : World => Below w.heap.size w W), x.val.cell? ⟨nb, 0, none⟩ = some (.int .i64 k) := fun x => (h.out.n.below x.ok).cell 0
      rcases hne with hz | ⟨m1, m2⟩ | ⟨m1, m2, m3⟩
      · have t1 : decide ((k : Int) < (u.size : Int)) = false := by simpa using hz
        refine wp_region_cls (C := fun W : World => Below w.heap.size w W) (by kernel_rfl) (by kernel_rfl) D1 ?_
        haveI : Nonempty (Of (fun W : World => Below w.heap.size w W)) := ⟨⟨_, D1⟩⟩
        repeat go_big_quiet_step (fail)
        refine wpQuiet_nil ?_
        intro W' hw'
        obtain ⟨x, rfl⟩ := hw'
        have hx := x.ok
        go_wp2_with fail
        refine ⟨⟨q + 1, by omega, by simp, Lib.hid hx⟩, ?_⟩
        show ((ws.length : Int) - ((q : Int) + 1)).toNat < ((ws.length : Int) - (q : Int)).toNat
        omega
      · have t1 : decide ((k : Int) < (u.size : Int)) = true := by simpa using m1
        have m1' : (k : Int) < u.size := by omega
        have hb := bt_at u (k : Int) (by simpa using m1)
        have hbd : ((u[k].toNat : Int) == c) = false := by
          have e3 : ((k : Int)).toNat = k := by omega
          simp only [e3] at hb; rw [hb]; simpa using m2
        refine wp_region_cls (C := fun W : World => Below w.heap.size w W) (by kernel_rfl) (by kernel_rfl) D1 ?_
        haveI : Nonempty (Of (fun W : World => Below w.heap.size w W)) := ⟨⟨_, D1⟩⟩
        repeat go_big_quiet_step (fail)
        refine wpQuiet_nil ?_
        intro W' hw'
        obtain ⟨x, rfl⟩ := hw'
        have hx := x.ok
        go_wp2_with fail
        refine ⟨⟨q + 1, by omega, by simp, Lib.hid hx⟩, ?_⟩
        show ((ws.length : Int) - ((q : Int) + 1)).toNat < ((ws.length : Int) - (q : Int)).toNat
        omega
      · have t1 : decide ((k : Int) < (u.size : Int)) = true := by simpa using m1
        have m1' : (k : Int) < u.size := by omega
        have hb := bt_at u (k : Int) (by simpa using m1)
        rw [m2] at hb
        simp only [Int.toNat_natCast] at hb
        have g1 : ∀ x : Of (fun W : World => Below w.heap.size w W), x.val.cell? ⟨xb, 0, none⟩ = some (.pointer (some ⟨s, 0, none⟩)) := fun x => (h.out.x.below x.ok).cell 0
        have g2 : ∀ x : Of (fun W : World => Below w.heap.size w W), x.val.cell? ⟨s, 0, none⟩ = some (.string S) := fun x => (h.out.sc.below x.ok).cell 0
        have g3 : ∀ x : Of (fun W : World => Below w.heap.size w W), x.val.cell? ⟨s, 1, none⟩ = some (.int .i64 ((a : Int) + k)) := fun x => (h.out.sc.below x.ok).cell 1
        have g4 : ∀ x : Of (fun W : World => Below w.heap.size w W), x.val.cell? ⟨fb, 0, none⟩ = some (.int .i64 a) := fun x => (h.out.fr.below x.ok).cell 0
        have hS' : (a : Int) + k ≤ S.size := by omega
        have hsl : ∀ wx : World, (Instr.slice 9 (.string S) (some (.int .i64 (a : Int))) (some (.int .i64 ((a : Int) + k))) none).run Tryz.prog wx = .ok (.string (S.extract a (a + k))) wx := fun wx => by
          have := run_slice_string (P := Tryz.prog) wx 9 S .i64 .i64 (a : Int) ((a : Int) + k) Tryz.underlying9 (by omega) (by omega) (by omega)
          have e2 : ((a : Int) + k).toNat = a + k := by omega
          rw [e2] at this; simpa using this
        have m4' : (u.extract 0 k == S.extract a (a + k)) = false := by
          rw [Bool.eq_false_iff]; exact fun z => m3 ((bytes_beq _ _).1 z)
        have m5' := beq_no m3
        refine wp_region_cls (C := fun W : World => Below w.heap.size w W) (by kernel_rfl) (by kernel_rfl) D1 ?_
        haveI : Nonempty (Of (fun W : World => Below w.heap.size w W)) := ⟨⟨_, D1⟩⟩
        repeat go_big_quiet_step (fail)
        refine wpQuiet_nil ?_
        intro W' hw'
        obtain ⟨x, rfl⟩ := hw'
        have hx := x.ok
        go_wp2_with fail
        refine ⟨⟨q + 1, by omega, by simp, Lib.hid hx⟩, ?_⟩
        show ((ws.length : Int) - ((q : Int) + 1)).toNat < ((ws.length : Int) - (q : Int)).toNat
        omega
/-- The first word that goes on. -/
theorem first_match {S : ByteArray} {a k : Nat} {c : Int} {ws : List ByteArray} : ∀ (j : Nat) {t : ByteArray}, ws[j]? = some t → wMatch S a k c t → ∃ (j' : Nat) (t' : ByteArray), ws[j']? = some t' ∧ wMatch S a k c t' ∧ ∀ (i : Nat) (u : ByteArray), i < j' → ws[i]? = some u → ¬ wMatch S a k c u := fun j => by
  induction j using Nat.strongRecOn with
  | _ j ih =>
    intro t hj hm
    by_cases h : ∃ (i : Nat) (u : ByteArray), i < j ∧ ws[i]? = some u ∧ wMatch S a k c u
    · obtain ⟨i, u, h1, h2, h3⟩ := h
      exact ih i h1 h2 h3
    · exact ⟨j, t, hj, hm, fun i u hi hu hw => h ⟨i, u, hi, hu, hw⟩⟩
theorem word11_any (s xb wb nb fb : Nat) (S : ByteArray) (a k : Nat) (v : Value) (ws : List ByteArray) (j : Nat) (t : ByteArray) (c : Int) (w : World) (h : Hid (WdIn w s xb wb nb fb S a k v ws)) (hj : ws[j]? = some t) (hm : wMatch S a k c t) (hS : a + k ≤ S.size) (hS2 : S.size ≤ 1000000) (hws : ws.length ≤ 1000) :
    Calls Tryz.prog 118 #[.int .u8 c, .pointer (some ⟨wb, 0, none⟩), .pointer (some ⟨nb, 0, none⟩), .pointer (some ⟨xb, 0, none⟩), .pointer (some ⟨fb, 0, none⟩)] w fun e w' => e = .returned (.bool true) ∧ Below w.heap.size w w' := by
  obtain ⟨j', t', h1, h2, h3⟩ := first_match j hj hm
  exact word11_c s xb wb nb fb S a k v ws j' t' c w h (Lib.hid h1) (Lib.hid h2) (Lib.hid h3) hS hS2 hws
end Go.Proofs.YtdgaflcnigljlaaGreatDoor
