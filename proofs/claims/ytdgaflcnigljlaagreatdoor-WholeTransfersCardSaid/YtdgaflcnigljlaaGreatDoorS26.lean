/-
  Contracts and plain facts for the laws on the whole program: the parts below say each what they are. No further condition.
-/
import Derived.Test.YtdgaflcnigljlaaGreatDoorS25
import Derived.Deep.WholeRow
set_option linter.unusedSimpArgs false
/-
  Contracts of package builtin: the built-in catalogue. No further condition.
-/
namespace Go.Proofs.YtdgaflcnigljlaaGreatDoor
open Go.RowKit Go.Proofs Go.MapKept Go.Proofs.YtdgaflcnigljlaaGreatDoorW.PrintWords
set_option linter.unusedVariables false
def biSeas : List Sea := [⟨⟨#[98, 97, 112, 116, 105, 115, 109, 45, 116, 105, 100, 101]⟩, 5, 8, ⟨3, 1, 8, 0, 1, 1⟩⟩,
  ⟨⟨#[108, 101, 110, 116]⟩, 2, 6, ⟨2, 0, 0, -46, 0, 0⟩⟩,
  ⟨⟨#[104, 111, 108, 121, 45, 119, 101, 101, 107]⟩, 1, 1, ⟨2, 0, 0, -7, 0, 0⟩⟩,
  ⟨⟨#[101, 97, 115, 116, 101, 114, 45, 111, 99, 116, 97, 118, 101]⟩, 1, 1, ⟨2, 0, 0, 0, 0, 0⟩⟩,
  ⟨⟨#[101, 97, 115, 116, 101, 114, 116, 105, 100, 101]⟩, 2, 8, ⟨2, 0, 0, 8, 0, 0⟩⟩,
  ⟨⟨#[111, 114, 100, 105, 110, 97, 114, 121, 45, 116, 105, 109, 101]⟩, 5, 8, ⟨2, 0, 0, 50, 0, 0⟩⟩,
  ⟨⟨#[97, 100, 118, 101, 110, 116]⟩, 2, 7, ⟨3, 11, 27, 0, 0, 1⟩⟩,
  ⟨⟨#[99, 104, 114, 105, 115, 116, 109, 97, 115]⟩, 3, 6, ⟨1, 12, 25, 0, 0, 0⟩⟩]
def biFeas : List Fea := [⟨⟨#[109, 97, 114, 121, 45, 109, 111, 116, 104, 101, 114, 45, 111, 102, 45, 103, 111, 100]⟩, 1, 2, ⟨1, 1, 1, 0, 0, 0⟩⟩,
  ⟨⟨#[101, 112, 105, 112, 104, 97, 110, 121]⟩, 1, 2, ⟨1, 1, 6, 0, 0, 0⟩⟩,
  ⟨⟨#[98, 97, 112, 116, 105, 115, 109, 45, 111, 102, 45, 116, 104, 101, 45, 108, 111, 114, 100]⟩, 2, 3, ⟨3, 1, 7, 0, 0, 1⟩⟩,
  ⟨⟨#[99, 111, 110, 118, 101, 114, 115, 105, 111, 110, 45, 111, 102, 45, 112, 97, 117, 108]⟩, 4, 3, ⟨1, 1, 25, 0, 0, 0⟩⟩,
  ⟨⟨#[112, 114, 101, 115, 101, 110, 116, 97, 116, 105, 111, 110]⟩, 2, 3, ⟨1, 2, 2, 0, 0, 0⟩⟩,
  ⟨⟨#[99, 104, 97, 105, 114, 45, 111, 102, 45, 112, 101, 116, 101, 114]⟩, 4, 2, ⟨1, 2, 22, 0, 0, 0⟩⟩,
  ⟨⟨#[106, 111, 115, 101, 112, 104]⟩, 1, 1, ⟨1, 3, 19, 0, 0, 0⟩⟩,
  ⟨⟨#[97, 110, 110, 117, 110, 99, 105, 97, 116, 105, 111, 110]⟩, 1, 1, ⟨1, 3, 25, 0, 0, 0⟩⟩,
  ⟨⟨#[97, 115, 99, 101, 110, 115, 105, 111, 110]⟩, 1, 2, ⟨2, 0, 0, 39, 0, 0⟩⟩,
  ⟨⟨#[112, 101, 110, 116, 101, 99, 111, 115, 116]⟩, 1, 2, ⟨2, 0, 0, 49, 0, 0⟩⟩,
  ⟨⟨#[116, 114, 105, 110, 105, 116, 121]⟩, 1, 2, ⟨2, 0, 0, 56, 0, 0⟩⟩,
  ⟨⟨#[99, 111, 114, 112, 117, 115, 45, 99, 104, 114, 105, 115, 116, 105]⟩, 1, 2, ⟨2, 0, 0, 60, 0, 0⟩⟩,
  ⟨⟨#[115, 97, 99, 114, 101, 100, 45, 104, 101, 97, 114, 116]⟩, 1, 2, ⟨2, 0, 0, 68, 0, 0⟩⟩,
  ⟨⟨#[106, 111, 104, 110, 45, 98, 97, 112, 116, 105, 115, 116]⟩, 1, 1, ⟨1, 6, 24, 0, 0, 0⟩⟩,
  ⟨⟨#[112, 101, 116, 101, 114, 45, 97, 110, 100, 45, 112, 97, 117, 108]⟩, 1, 1, ⟨1, 6, 29, 0, 0, 0⟩⟩,
  ⟨⟨#[116, 114, 97, 110, 115, 102, 105, 103, 117, 114, 97, 116, 105, 111, 110]⟩, 2, 3, ⟨1, 8, 6, 0, 0, 0⟩⟩,
  ⟨⟨#[97, 115, 115, 117, 109, 112, 116, 105, 111, 110]⟩, 1, 2, ⟨1, 8, 15, 0, 0, 0⟩⟩,
  ⟨⟨#[101, 120, 97, 108, 116, 97, 116, 105, 111, 110, 45, 111, 102, 45, 116, 104, 101, 45, 99, 114, 111, 115, 115]⟩, 2, 3, ⟨1, 9, 14, 0, 0, 0⟩⟩,
  ⟨⟨#[97, 108, 108, 45, 115, 97, 105, 110, 116, 115]⟩, 1, 2, ⟨1, 11, 1, 0, 0, 0⟩⟩,
  ⟨⟨#[97, 108, 108, 45, 115, 111, 117, 108, 115]⟩, 3, 3, ⟨1, 11, 2, 0, 0, 0⟩⟩,
  ⟨⟨#[99, 104, 114, 105, 115, 116, 45, 116, 104, 101, 45, 107, 105, 110, 103]⟩, 1, 3, ⟨3, 11, 20, 0, 0, 1⟩⟩,
  ⟨⟨#[97, 110, 100, 114, 101, 119]⟩, 4, 2, ⟨1, 11, 30, 0, 0, 0⟩⟩,
  ⟨⟨#[105, 109, 109, 97, 99, 117, 108, 97, 116, 101, 45, 99, 111, 110, 99, 101, 112, 116, 105, 111, 110]⟩, 1, 1, ⟨1, 12, 8, 0, 0, 0⟩⟩,
  ⟨⟨#[110, 97, 116, 105, 118, 105, 116, 121]⟩, 1, 2, ⟨1, 12, 25, 0, 0, 0⟩⟩,
  ⟨⟨#[115, 116, 101, 112, 104, 101, 110]⟩, 4, 2, ⟨1, 12, 26, 0, 0, 0⟩⟩]
def biCat : Cat := ⟨5, biSeas, biFeas⟩
theorem store_done {P : Program} {W : World} {c c' : Array Value} {L : List Value} {t : TypeId} (hL : L = c'.toList) (hi : (P.info? t).map (·.size) = some c'.size) (ho : c.size = c'.size) (h1 : c'.all (·.oneCell') = true) : (storeCells ⟨W.heap.size, 0, none⟩ L 0).run P (W.alloc (.cells c t)) = .ok () (W.alloc (.cells c' t)) := by
  subst hL
  exact run_storeCells_new W t c c' hi ho h1
def biS : Array Value := ((biSeas.map Sea.cells).flatMap Array.toList).toArray
def biF : Array Value := ((biFeas.map Fea.cells).flatMap Array.toList).toArray
theorem bfix_c (m d : Int) (w : World) : Calls Tryz.prog 125 #[.int .i64 m, .int .i64 d] w fun e w' => e = .returned (.agg #[.int .i64 1, .int .i64 m, .int .i64 d, .int .i64 0, .int .i64 0, .int .i64 0]) ∧ Below w.heap.size w w' := by
  go_enter Tryz.func125, Tryz.ntmps125
  go_wp2
  refine bodyPost_ret (results_cell_row rfl _ _ w.heap.size 59 #[.int .i64 1, .int .i64 m, .int .i64 d, .int .i64 0, .int .i64 0, .int .i64 0] (0, 0) _ rfl (Blk.new _ _ _) Tryz.underlying59 rfl (by kernel_rfl)) rfl ⟨rfl, (Below.refl _ _).alloc (Nat.le_refl _) _⟩
theorem bpas_c (o : Int) (w : World) : Calls Tryz.prog 124 #[.int .i64 o] w fun e w' => e = .returned (.agg #[.int .i64 2, .int .i64 0, .int .i64 0, .int .i64 o, .int .i64 0, .int .i64 0]) ∧ Below w.heap.size w w' := by
  go_enter Tryz.func124, Tryz.ntmps124
  go_wp2
  refine bodyPost_ret (results_cell_row rfl _ _ w.heap.size 59 #[.int .i64 2, .int .i64 0, .int .i64 0, .int .i64 o, .int .i64 0, .int .i64 0] (0, 0) _ rfl (Blk.new _ _ _) Tryz.underlying59 rfl (by kernel_rfl)) rfl ⟨rfl, (Below.refl _ _).alloc (Nat.le_refl _) _⟩
theorem baft_c (k m d : Int) (w : World) : Calls Tryz.prog 123 #[.int .i64 k, .int .i64 m, .int .i64 d] w fun e w' => e = .returned (.agg #[.int .i64 3, .int .i64 m, .int .i64 d, .int .i64 0, .int .i64 k, .int .i64 1]) ∧ Below w.heap.size w w' := by
  go_enter Tryz.func123, Tryz.ntmps123
  go_wp2
  refine bodyPost_ret (results_cell_row rfl _ _ w.heap.size 59 #[.int .i64 3, .int .i64 m, .int .i64 d, .int .i64 0, .int .i64 k, .int .i64 1] (0, 0) _ rfl (Blk.new _ _ _) Tryz.underlying59 rfl (by kernel_rfl)) rfl ⟨rfl, (Below.refl _ _).alloc (Nat.le_refl _) _⟩
set_option maxRecDepth 20000 in
set_option maxHeartbeats 1000000 in
theorem bseas_c (w : World) : Calls Tryz.prog 85 #[] w fun e w' => ∃ g, e = .returned (.slice (some ⟨g, 0, none⟩) 8 8) ∧ Blk w' g biS 181 ∧ Below w.heap.size w w' := by
  have HB : Hid (Below w.heap.size w w) := Lib.hid (Below.refl _ _)
  go_enter Tryz.func85, Tryz.ntmps85
  go_wp2_with (first | (go_at_call 125; with_reducible refine (bfix_c _ _ _).mono ?_; rintro e w1 ⟨rfl, hw⟩; replace HB := Lib.hid (below_then HB.out HB.out.size hw); clear hw) | (go_at_call 124; with_reducible refine (bpas_c _ _).mono ?_; rintro e w1 ⟨rfl, hw⟩; replace HB := Lib.hid (below_then HB.out HB.out.size hw); clear hw) | (go_at_call 123; with_reducible refine (baft_c _ _ _ _).mono ?_; rintro e w1 ⟨rfl, hw⟩; replace HB := Lib.hid (below_then HB.out HB.out.size hw); clear hw))
  rw [store_done (c' := biS) (t := 181)]
  case hL => kernel_rfl
  case hi => kernel_rfl
  case ho => kernel_rfl
  case h1 => kernel_rfl
  go_wp2_with fail
  go_ret
  exact ⟨_, rfl, Blk.new _ _ _, HB.out.alloc HB.out.size _⟩
set_option maxRecDepth 100000 in
set_option maxHeartbeats 4000000 in
theorem bfeas_c (w : World) : Calls Tryz.prog 86 #[] w fun e w' => ∃ g, e = .returned (.slice (some ⟨g, 0, none⟩) 25 25) ∧ Blk w' g biF 182 ∧ Below w.heap.size w w' := by
  have HB : Hid (Below w.heap.size w w) := Lib.hid (Below.refl _ _)
  go_enter Tryz.func86, Tryz.ntmps86
  go_wp2_with (first | (go_at_call 125; with_reducible refine (bfix_c _ _ _).mono ?_; rintro e w1 ⟨rfl, hw⟩; replace HB := Lib.hid (below_then HB.out HB.out.size hw); clear hw) | (go_at_call 124; with_reducible refine (bpas_c _ _).mono ?_; rintro e w1 ⟨rfl, hw⟩; replace HB := Lib.hid (below_then HB.out HB.out.size hw); clear hw) | (go_at_call 123; with_reducible refine (baft_c _ _ _ _).mono ?_; rintro e w1 ⟨rfl, hw⟩; replace HB := Lib.hid (below_then HB.out HB.out.size hw); clear hw))
  rw [store_done (c' := biF) (t := 182)]
  case hL => kernel_rfl
  case hi => kernel_rfl
  case ho => kernel_rfl
  case h1 => kernel_rfl
  go_wp2_with fail
  go_ret
  exact ⟨_, rfl, Blk.new _ _ _, HB.out.alloc HB.out.size _⟩
theorem rows9_blk {w : World} {g : Nat} {t : TypeId} {rows : List (Array Value)} (h : Blk w g ((rows.flatMap Array.toList).toArray) t) (hs : ∀ r ∈ rows, r.size = 9) : Rows9 w (some ⟨g, 0, none⟩) rows := fun k cs hk => by
  refine ⟨_, rfl, fun j v hv => ?_⟩
  have hj : j < 9 := by
    have := (Array.getElem?_eq_some_iff.1 hv).1
    rw [hs cs (List.mem_of_getElem? hk)] at this; exact this
  have hc := h.cell (k * 9 + j)
  rw [List.getElem?_toArray, flat_at hs hk hj, hv] at hc
  rw [Addr.add_lit]
  simp only [Nat.zero_add]
  by_cases h0 : j = 0
  · subst h0; simpa using hc
  · rw [if_neg h0]; exact hc
theorem bicat_c (w : World) : Calls Tryz.prog 56 #[] w fun e w' => ∃ g1 g2, e = .returned (.agg #[.int .i64 biCat.free, .slice (some ⟨g1, 0, none⟩) 8 8, .slice (some ⟨g2, 0, none⟩) 25 25]) ∧ CatIn w' biCat (some ⟨g1, 0, none⟩) 8 8 (some ⟨g2, 0, none⟩) 25 25 ∧ Below w.heap.size w w' := by
  have HB : Hid (Below w.heap.size w (w.alloc (.cells #[.int .i64 0, .slice none 0 0, .slice none 0 0] 25)) ∧ Blk (w.alloc (.cells #[.int .i64 0, .slice none 0 0, .slice none 0 0] 25)) w.heap.size #[.int .i64 0, .slice none 0 0, .slice none 0 0] 25) := Lib.hid ⟨(Below.refl _ _).alloc (Nat.le_refl _) _, Blk.new _ _ _⟩
  go_enter Tryz.func56, Tryz.ntmps56
  go_wp2_with (first | (go_at_call 85; with_reducible refine (bseas_c _).mono ?_; rintro e w1 ⟨g1, rfl, h1, hw⟩; have HS := Lib.hid h1; replace HB := Lib.hid (And.intro (below_then HB.out.1 HB.out.1.size hw) (HB.out.2.below hw)); clear hw h1) | (go_at_call 86; with_reducible refine (bfeas_c _).mono ?_; rintro e w2 ⟨g2, rfl, h2, hw⟩; have HF := Lib.hid h2; replace HS := Lib.hid (HS.out.below hw); replace HB := Lib.hid (And.intro (below_then HB.out.1 HB.out.1.size hw) (HB.out.2.below hw)); clear hw h2; have z0 := HB.out.2.cell 0; have z1 := HB.out.2.cell 1; have z2 := HB.out.2.cell 2; have f0 := HB.out.2.frozen 0; have f1 := HB.out.2.frozen 1; have f2 := HB.out.2.frozen 2))
  have G := ((gs_set w2 w.heap.size 0 (.int .i64 5)).trans (gs_set _ _ 1 (.slice (some ⟨g1, 0, none⟩) 8 8))).trans (gs_set _ _ 2 (.slice (some ⟨g2, 0, none⟩) 25 25))
  have n1 : g1 ≠ w.heap.size := HS.out.ne HB.out.2 (by decide)
  have n2 : g2 ≠ w.heap.size := HF.out.ne HB.out.2 (by decide)
  refine bodyPost_ret (results_cell_row rfl _ _ w.heap.size 25 #[.int .i64 5, .slice (some ⟨g1, 0, none⟩) 8 8, .slice (some ⟨g2, 0, none⟩) 25 25] (0, 0) _ rfl (((HB.out.2.put 0 _ rfl).put 1 _ rfl).put 2 _ rfl) Tryz.underlying25 rfl (by kernel_rfl)) rfl ?_
  refine ⟨g1, g2, rfl, ⟨rfl, rfl, by decide, by decide, rows9_blk (t := 181) (HS.out.grown G (by simpa using n1.symm)) ?_, rows9_blk (t := 182) (HF.out.grown G (by simpa using n2.symm)) ?_⟩, HB.out.1.grown G HB.out.1.size (fun k e => by cases e; exact Nat.le_refl _)⟩
  · intro r hr; obtain ⟨s, _, rfl⟩ := List.mem_map.1 hr; rfl
  · intro r hr; obtain ⟨s, _, rfl⟩ := List.mem_map.1 hr; rfl
end Go.Proofs.YtdgaflcnigljlaaGreatDoor
