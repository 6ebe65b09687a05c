/-
  Contracts and plain facts for the laws on the whole program: the parts below say each what they are. No further condition.
-/
import Derived.Test.YtdgaflcnigljlaaGreatDoorS08
import Derived.Laws.EntriesVeiled
import Derived.WalkMore
import Derived.ScopeJumps
/-
  Contracts of the paschal full moon and of Easter in the Gregorian calendar, years from 1583 to 1000000000, wherever the tables lie in memory as the program text lays them.
-/
namespace Go.Proofs.YtdgaflcnigljlaaGreatDoor
open Go.RowKit Go.Proofs.YtdgaflcnigljlaaGreatDoorW.PrintWords
set_option linter.unusedVariables false
theorem from_c (n : Int) (w : World) (h : vDayOk n = true) : Calls Tryz.prog 97 #[.int .i64 n] w fun e w' => e = .returned (.tuple #[.agg #[.int .i64 (vYear n), .int .i64 (mMon n), .int .i64 (mDay n)], .int .i64 0]) ∧ Below w.heap.size w w' := from_yes n w h
theorem toOk_c (y m d : Int) (w : World) (h : vValid y m d = true) : Calls Tryz.prog 177 #[.agg #[.int .i64 y, .int .i64 m, .int .i64 d]] w fun e w' => e = .returned (.tuple #[.int .i64 (vTo y m d), .int .i64 0]) ∧ Below w.heap.size w w' := by
  have := to_yes y m d w h
  rwa [(vTo_ok h).1, (vTo_ok h).2] at this
set_option maxHeartbeats 400000 in
theorem of_c' (w : World) : Calls Tryz.prog 151 #[.int .i64 2] w fun e w' => e = .returned (.tuple #[.agg #[.func (.func 177) #[] #[], .func (.func 97) #[] #[], .func (.func 60) #[] #[], .func (.func 89) #[] #[]], .int .i64 0]) ∧ Below w.heap.size w w' := by
  go_enter Tryz.func151, Tryz.ntmps151
  go_wp2
  exact bodyPost_ret (results_ct rfl _ _ w.heap.size 206 #[.func (.func 177) #[] #[], .func (.func 97) #[] #[], .func (.func 60) #[] #[], .func (.func 89) #[] #[]] (0, 0) _ rfl (Blk.new _ _ _) Tryz.underlying206 rfl (by kernel_rfl)) rfl ⟨rfl, (Below.refl _ _).alloc (Nat.le_refl _) _⟩
set_option maxHeartbeats 400000 in
theorem civTo_c (y m d : Int) (w : World) (h : Hid (vValid y m d = true)) : Calls Tryz.prog 152 #[.int .i64 2, .agg #[.int .i64 y, .int .i64 m, .int .i64 d]] w fun e w' => e = .returned (.tuple #[.int .i64 (vTo y m d), .int .i64 0]) ∧ Below w.heap.size w w' := by
  have HB := (Below.refl w.heap.size w).alloc (Nat.le_refl _) (.cells #[.int .i64 y, .int .i64 m, .int .i64 d] 39)
  have B0 := Blk.new w #[.int .i64 y, .int .i64 m, .int .i64 d] 39
  go_enter Tryz.func152, Tryz.ntmps152
  go_wp2_with (first | (go_at_call 151; with_reducible refine (of_c' _).mono ?_; rintro e w1 ⟨rfl, hw⟩; replace B0 := B0.below hw; replace HB := below_then HB (by simp) hw; clear hw; obtain ⟨⟨a0, a1, a2⟩, _⟩ := B0.c3; have blt := B0.lt) | (go_at_call 177; with_reducible refine (toOk_c _ _ _ _ h.out).mono ?_; rintro e w2 ⟨rfl, hw⟩))
  go_ret2
  exact ⟨rfl, below_then (HB.alloc HB.size _) (by have := HB.size; simp; omega) hw⟩
set_option maxHeartbeats 400000 in
theorem civFrom_c (n : Int) (w : World) (h : Hid (vDayOk n = true)) : Calls Tryz.prog 153 #[.int .i64 2, .int .i64 n] w fun e w' => e = .returned (.tuple #[.agg #[.int .i64 (vYear n), .int .i64 (mMon n), .int .i64 (mDay n)], .int .i64 0]) ∧ Below w.heap.size w w' := by
  have HB := (Below.refl w.heap.size w).alloc (Nat.le_refl _) (.cells #[.int .i64 0, .int .i64 0, .int .i64 0] 39)
  have B0 := Blk.new w #[.int .i64 0, .int .i64 0, .int .i64 0] 39
  go_enter Tryz.func153, Tryz.ntmps153
  go_wp2_with (first | (go_at_call 151; with_reducible refine (of_c' _).mono ?_; rintro e w1 ⟨rfl, hw⟩; replace B0 := B0.below hw; replace HB := below_then HB (by simp) hw; clear hw) | (go_at_call 97; with_reducible refine (from_c _ _ h.out).mono ?_; rintro e w2 ⟨rfl, hw⟩; replace B0 := (B0.alloc _).below hw; replace HB := below_then (HB.alloc HB.size _) (by have := HB.size; simp; omega) hw; clear hw; obtain ⟨⟨a0, a1, a2⟩, a3, a4, a5⟩ := B0.c3))
  exact bodyPost_ret (results_ct rfl _ _ w.heap.size 39 #[.int .i64 (vYear n), .int .i64 (mMon n), .int .i64 (mDay n)] (0, 0) _ rfl (((B0.put 0 _ rfl).put 1 _ rfl).put 2 _ rfl) Tryz.underlying39 rfl (by kernel_rfl)) rfl ⟨rfl, ((HB.setCell (Nat.le_refl _) _).setCell (Nat.le_refl _) _).setCell (Nat.le_refl _) _⟩
set_option maxHeartbeats 400000 in
theorem shift_c (y m d x n : Int) (w : World) (h : Hid (vValid y m d = true)) (hn : Hid (vTo y m d + x = n)) (hk : Hid (vDayOk n = true)) (hx : -100 ≤ x) (hx2 : x ≤ 100) (hT : 0 ≤ vTo y m d) (hT2 : vTo y m d ≤ 365242600000) :
    Calls Tryz.prog 234 #[.int .i64 2, .agg #[.int .i64 y, .int .i64 m, .int .i64 d], .int .i64 x] w fun e w' => e = .returned (.tuple #[.agg #[.int .i64 (vYear n), .int .i64 (mMon n), .int .i64 (mDay n)], .int .i64 0]) ∧ Below w.heap.size w w' := by
  have HB := ((Below.refl w.heap.size w).alloc (Nat.le_refl _) (.cells #[.int .i64 y, .int .i64 m, .int .i64 d] 39)).alloc (by simp) (.cells #[.int .i64 0, .int .i64 0, .int .i64 0] 39)
  have B0 := Blk.new2 w (.cells #[.int .i64 y, .int .i64 m, .int .i64 d] 39) #[.int .i64 0, .int .i64 0, .int .i64 0] 39
  go_enter Tryz.func234, Tryz.ntmps234
  go_wp2_with (first | (go_at_call 152; with_reducible refine (civTo_c _ _ _ _ h).mono ?_; rintro e w1 ⟨rfl, hw⟩; replace B0 := B0.below hw; replace HB := below_then HB (by simp; omega) hw; clear hw; try rw [hn.out]) | (go_at_call 153; with_reducible refine (civFrom_c _ _ (Lib.hid (by rw [hn.out]; exact hk.out))).mono ?_; rintro e w2 ⟨rfl, hw⟩; rw [hn.out]; replace B0 := B0.below hw; replace HB := below_then HB HB.size hw; clear hw; obtain ⟨⟨a0, a1, a2⟩, a3, a4, a5⟩ := B0.c3; have blt := B0.lt))
  exact bodyPost_ret (results_ct rfl _ _ (w.heap.size + 1) 39 #[.int .i64 (vYear n), .int .i64 (mMon n), .int .i64 (mDay n)] (0, 0) _ rfl (((B0.put 0 _ rfl).put 1 _ rfl).put 2 _ rfl) Tryz.underlying39 rfl (by kernel_rfl)) rfl ⟨rfl, ((HB.setCell (by simp) _).setCell (by simp) _).setCell (by simp) _⟩

/-! days from 8 March on -/
def n8 (y : Int) : Int := vTo y 3 8
theorem dat {y k : Int} (h1 : 1583 ≤ y) (h2 : y ≤ 1000000000) (h0 : 0 ≤ k) (h : k ≤ 53) : vValid y (mK k) (dK k) = true ∧ vTo y (mK k) (dK k) = n8 y + k := by
  have p := lp01 (vLeap y)
  unfold n8 mK dK
  by_cases a : k ≤ 23
  · rw [if_pos a, if_pos a]
    refine ⟨vValid_iff.2 ⟨⟨by omega, h2⟩, by omega, ?_⟩, ?_⟩
    · simp [vLen]; omega
    · unfold vTo; omega
  · rw [if_neg a, if_neg a]
    refine ⟨vValid_iff.2 ⟨⟨by omega, h2⟩, by omega, ?_⟩, ?_⟩
    · simp [vLen]; omega
    · unfold vTo; simp [vCum]; omega
theorem dat_from {y k : Int} (h1 : 1583 ≤ y) (h2 : y ≤ 1000000000) (h0 : 0 ≤ k) (h : k ≤ 53) : vDayOk (n8 y + k) = true ∧ vYear (n8 y + k) = y ∧ mMon (n8 y + k) = mK k ∧ mDay (n8 y + k) = dK k := by
  obtain ⟨v, e⟩ := dat h1 h2 h0 h
  obtain ⟨⟨a1, a2⟩, b, c, d⟩ := to_from v
  rw [e] at a1 a2 b c d
  exact ⟨vDayOk_iff.2 ⟨a1, a2⟩, b, c, d⟩
theorem n8_in {y : Int} (h1 : 1583 ≤ y) (h2 : y ≤ 1000000000) : 1 ≤ n8 y ∧ n8 y ≤ 365242600000 := by
  obtain ⟨a, _⟩ := dat_from h1 h2 (k := 0) (by omega) (by omega)
  rw [vDayOk_iff] at a; omega
/-- The days from 21 March to the full moon of a label. -/
def pK (l : Int) : Int := if l ≤ 23 then 23 - l else if l = 31 then 27 else if l = 25 ∨ l = 24 then 28 else 53 - l
theorem pK_in {l : Int} (h1 : 1 ≤ l) (h2 : l ≤ 31) : 0 ≤ pK l ∧ pK l ≤ 28 := by
  unfold pK; repeat' split
  all_goals omega
theorem pK_yes {l : Int} (h1 : 1 ≤ l) (h2 : l ≤ 31) : bearsK (pK l) l = true := by
  unfold bearsK pK; rw [decide_eq_true_eq]; repeat' split
  all_goals omega
theorem pK_no {l k : Int} (h1 : 1 ≤ l) (h2 : l ≤ 31) (h0 : 0 ≤ k) (h : k < pK l) : bearsK k l = false := by
  unfold bearsK; unfold pK at h; rw [decide_eq_false_iff_not]; revert h; repeat' split
  all_goals omega

set_option maxHeartbeats 400000 in
theorem newMoon_c (y k : Int) (w : World) (ht : Hid (Tabs w)) (h1 : 1583 ≤ y) (h2 : y ≤ 1000000000) (h0 : 0 ≤ k) (h : k ≤ 28) : Calls Tryz.prog 235 #[.int .i64 2, .agg #[.int .i64 y, .int .i64 (mK k), .int .i64 (dK k)]] w fun e w' => e = .returned (.tuple #[.bool (bearsK k (vLab y)), .int .i64 0]) ∧ Below w.heap.size w w' := by
  have V := Lib.hid (dat h1 h2 h0 (by omega)).1
  have HB := (Below.refl w.heap.size w).alloc (Nat.le_refl _) (.cells #[.int .i64 y, .int .i64 (mK k), .int .i64 (dK k)] 39)
  have B0 := Blk.new w #[.int .i64 y, .int .i64 (mK k), .int .i64 (dK k)] 39
  go_enter Tryz.func235, Tryz.ntmps235
  go_wp2_with (first | (go_at_call 233; with_reducible refine (epLabel_c _ _ h1 h2).mono ?_; rintro e w1 ⟨rfl, hw⟩; replace B0 := B0.below hw; replace HB := below_then HB (by simp) hw; clear hw; obtain ⟨⟨a0, a1, a2⟩, _⟩ := B0.c3; have blt := B0.lt) | (go_at_call 152; with_reducible refine (civTo_c _ _ _ _ V).mono ?_; rintro e w2 ⟨rfl, hw⟩; clear a0 a1 a2 blt; replace B0 := B0.below hw; replace HB := below_then HB HB.size hw; clear hw; obtain ⟨⟨a0, a1, a2⟩, _⟩ := B0.c3; have blt := B0.lt) | (go_at_call 249; with_reducible refine (bears_c _ _ _ (Lib.hid (ht.out.below HB)) h0 h).mono ?_; rintro e w3 ⟨rfl, hw⟩; replace HB := below_then HB HB.size hw; clear hw))
  go_ret2
  exact ⟨rfl, HB⟩
theorem DBox.date {w wr : World} {g : Nat} {y k d : Int} (h : DBox w wr g y k d) : Blk wr g #[.int .i64 y, .int .i64 k, .int .i64 d] 39 := h.2.2.2
theorem DBox.res {w wr : World} {g : Nat} {y k d : Int} (h : DBox w wr g y k d) : Blk wr w.heap.size #[.int .i64 0, .int .i64 0, .int .i64 0] 39 := h.2.2.1
theorem DBox.ord {w wr : World} {g : Nat} {y k d : Int} (h : DBox w wr g y k d) : w.heap.size < g := h.2.1
theorem DBox.bel {w wr : World} {g : Nat} {y k d : Int} (h : DBox w wr g y k d) : Below w.heap.size w wr := h.1
theorem DBox.below {w wr w2 : World} {g : Nat} {y k d : Int} (h : DBox w wr g y k d) (hb : Below wr.heap.size wr w2) : DBox w w2 g y k d := ⟨below_then h.1 h.1.size hb, h.2.1, h.2.2.1.below hb, h.2.2.2.below hb⟩
theorem DBox.alloc {w wr : World} {g : Nat} {y k d : Int} (h : DBox w wr g y k d) (o : Obj) : DBox w (wr.alloc o) g y k d := ⟨h.1.alloc h.1.size o, h.2.1, h.2.2.1.alloc o, h.2.2.2.alloc o⟩
theorem DBox.again {w wr : World} {g : Nat} {y k d : Int} (h : DBox w wr g y k d) (k' d' : Int) : DBox w (((wr.setCell ⟨g, 0, none⟩ (.int .i64 y)).setCell ⟨g, 1, none⟩ (.int .i64 k')).setCell ⟨g, 2, none⟩ (.int .i64 d')) g y k' d' :=
  have hl : w.heap.size ≤ g := Nat.le_of_lt h.ord
  have hn : w.heap.size ≠ g := Nat.ne_of_lt h.ord
  ⟨((h.bel.setCell hl _).setCell hl _).setCell hl _, h.ord, ((h.res.far hn _).far hn _).far hn _, ((h.date.put 0 _ rfl).put 1 _ rfl).put 2 _ rfl⟩
def dnum : Option Value → Option Value → Int
  | some (.int _ m), some (.int _ d) => if m = 3 then d - 21 else d + 10
  | _, _ => 0
def moonLeft (a : Act) (w : World) : Nat := match a.tmps.getD 8 undef with
  | .pointer (some p) => (28 - dnum (w.cell? ⟨p.block, 1, none⟩) (w.cell? ⟨p.block, 2, none⟩)).toNat
  | _ => 0
theorem dnum_at {k : Int} (h0 : 0 ≤ k) (h : k ≤ 28) : dnum (some (.int .i64 (mK (13 + k)))) (some (.int .i64 (dK (13 + k)))) = k := by
  unfold dnum mK dK
  by_cases a : 13 + k ≤ 23
  · simp [a]; omega
  · simp [a]; omega
theorem moon_at {a : Act} {W : World} {g : Nat} {y k : Int} (ha : a.tmps.getD 8 undef = .pointer (some ⟨g, 0, none⟩)) (hb : Blk W g #[.int .i64 y, .int .i64 (mK (13 + k)), .int .i64 (dK (13 + k))] 39) (h0 : 0 ≤ k) (h : k ≤ 28) : moonLeft a W = (28 - k).toNat := by
  unfold moonLeft
  rw [ha]
  simp only [hb.c3.1.2.1, hb.c3.1.2.2, dnum_at h0 h]
set_option maxHeartbeats 1000000 in
theorem fullMoon_c (y : Int) (w : World) (ht : Hid (Tabs w)) (h1 : 1583 ≤ y) (h2 : y ≤ 1000000000) : Calls Tryz.prog 216 #[.int .i64 2, .int .i64 y] w fun e w' => e = .returned (.tuple #[.agg #[.int .i64 y, .int .i64 (mK (13 + pK (vLab y))), .int .i64 (dK (13 + pK (vLab y)))], .int .i64 0]) ∧ Below w.heap.size w w' := by
  have HB := (Below.refl w.heap.size w).alloc (Nat.le_refl _) (.cells #[.int .i64 0, .int .i64 0, .int .i64 0] 39)
  have B0 := Blk.new w #[.int .i64 0, .int .i64 0, .int .i64 0] 39
  obtain ⟨L1, L2⟩ := vLab_in y
  obtain ⟨p1, p2⟩ := pK_in L1 L2
  go_enter Tryz.func216, Tryz.ntmps216
  go_wp2_with fail
  refine wp_scope_jumps 0 (fun a' w' => ∃ (g : Nat) (k : Int) (u9 u10 u11 u12 u25 u26 u27 u28 u29 u30 u31 u32 u33 u34 u35 u36 u37 u38 u39 u40 u41 u42 u43 u44 : Value), a' = { tmps := #[.int .i64 2, .int .i64 y, undef, undef, .pointer (some ⟨w.heap.size, 0, none⟩), .int .i64 0, .int .i64 (vLab y), .int .i64 0, .pointer (some ⟨g, 0, none⟩), u9, u10, u11, u12, .tuple #[.int .i64 (vLab y), .int .i64 0], .int .i64 2, .int .i64 y, .tuple #[.int .i64 (vLab y), .int .i64 0], .int .i64 (vLab y), .int .i64 0, .int .i64 0, .bool false, undef, undef, .int .i64 y, .agg #[.int .i64 y, .int .i64 3, .int .i64 21], u25, u26, u27, u28, u29, u30, u31, u32, u33, u34, u35, u36, u37, u38, u39, u40, u41, u42, u43, u44, undef], defers := [] } ∧ 0 ≤ k ∧ k ≤ pK (vLab y) ∧ Hid (DBox w w' g y (mK (13 + k)) (dK (13 + k)))) moonLeft rfl ?_ ?_
  · go_wp2_with (first | (go_at_call 233; with_reducible refine (epLabel_c _ _ h1 h2).mono ?_; rintro e w1 ⟨rfl, hw⟩; replace B0 := B0.below hw; replace HB := below_then HB (by simp) hw; clear hw; obtain ⟨⟨a0, a1, a2⟩, a3, a4, a5⟩ := B0.c3; have blt := B0.lt))
    clear a0 a1 a2 a3 a4 a5 blt
    go_step3
    have HT := Lib.hid (show DBox w (w1.alloc (.cells #[.int .i64 y, .int .i64 3, .int .i64 21] 39)) w1.heap.size y (mK (13 + 0)) (dK (13 + 0)) from ⟨HB.alloc HB.size _, B0.lt, B0.alloc _, Blk.new _ _ _⟩)
    clear HB B0
    generalize w1.alloc (.cells #[.int .i64 y, .int .i64 3, .int .i64 21] 39) = W at *
    generalize w1.heap.size = g at *
    obtain ⟨k, hk0, k0, k1⟩ : ∃ k : Int, 0 = k ∧ 0 ≤ k ∧ k ≤ pK (vLab y) := ⟨0, rfl, by omega, by omega⟩
    rw [hk0] at HT
    clear hk0
    obtain ⟨v1, v2⟩ := dat h1 h2 (k := 13 + k) (by omega) (by omega)
    have V := Lib.hid v1
    have E := Lib.hid (show vTo y (mK (13 + k)) (dK (13 + k)) + -13 = n8 y + k by rw [v2]; omega)
    have E2 := Lib.hid (show vTo y (mK (13 + k)) (dK (13 + k)) + 1 = n8 y + (13 + (k + 1)) by rw [v2]; omega)
    obtain ⟨f1, f2, f3, f4⟩ := dat_from h1 h2 (k := k) (by omega) (by omega)
    obtain ⟨f5, f6, f7, f8⟩ := dat_from h1 h2 (k := 13 + (k + 1)) (by omega) (by omega)
    have F := Lib.hid f1
    have F5 := Lib.hid f5
    have M1 := Lib.hid (And.intro f2 (And.intro f3 f4))
    have M2 := Lib.hid (And.intro f6 (And.intro f7 f8))
    have T1 : 0 ≤ vTo y (mK (13 + k)) (dK (13 + k)) := by have := n8_in h1 h2; rw [v2]; omega
    have T2 : vTo y (mK (13 + k)) (dK (13 + k)) ≤ 365242600000 := by have := vDayOk_iff.1 f5; rw [v2]; omega
    clear v1 v2 f1 f2 f3 f4 f5 f6 f7 f8
    obtain ⟨⟨a0, a1, a2⟩, a3, a4, a5⟩ := HT.out.date.c3
    have blt := HT.out.date.lt
    have HQ := HT
    by_cases hk : k = pK (vLab y)
    · have B := Lib.hid (show bearsK k (vLab y) = true from hk ▸ pK_yes L1 L2)
      have HK := Lib.hid hk
      clear hk
      go_wp2_with (first | (go_at_call 234; with_reducible refine (shift_c _ _ _ _ _ _ V E F (by omega) (by omega) T1 T2).mono ?_; rintro e w2 ⟨rfl, hw⟩; rw [M1.out.1, M1.out.2.1, M1.out.2.2]; clear a0 a1 a2 a3 a4 a5 blt; replace HQ := Lib.hid (HQ.out.below hw); clear hw; obtain ⟨⟨a0, a1, a2⟩, a3, a4, a5⟩ := HQ.out.date.c3; have blt := HQ.out.date.lt) | (go_at_call 235; with_reducible refine (newMoon_c _ _ _ (Lib.hid (ht.out.below (HQ.out.bel.alloc HQ.out.bel.size _))) h1 h2 (by omega) (by omega)).mono ?_; rintro e w3 ⟨rfl, hw⟩; rw [B.out]; clear a0 a1 a2 a3 a4 a5 blt; replace HQ := Lib.hid ((HQ.out.alloc _).below hw); clear hw; obtain ⟨⟨a0, a1, a2⟩, a3, a4, a5⟩ := HQ.out.date.c3; have blt := HQ.out.date.lt; obtain ⟨⟨b0, b1, b2⟩, b3, b4, b5⟩ := HQ.out.res.c3; have blt2 := HQ.out.res.lt; have hgw := HQ.out.ord))
      simp only [Exit.jump]
      refine bodyPost_ret (results_ct rfl _ _ w.heap.size 39 #[.int .i64 y, .int .i64 (mK (13 + k)), .int .i64 (dK (13 + k))] (0, 0) _ rfl (((HQ.out.res.put 0 _ rfl).put 1 _ rfl).put 2 _ rfl) Tryz.underlying39 rfl (by kernel_rfl)) rfl ⟨by rw [← HK.out]; rfl, ?_⟩
      exact ((HQ.out.bel.setCell (Nat.le_refl _) _).setCell (Nat.le_refl _) _).setCell (Nat.le_refl _) _
    · have k2 : k < pK (vLab y) := by omega
      have B := Lib.hid (show bearsK k (vLab y) = false from pK_no L1 L2 (by omega) k2)
      clear hk
      go_wp2_with (first | (go_at_call 234; with_reducible refine (shift_c _ _ _ (-13) _ _ V E F (by omega) (by omega) T1 T2).mono ?_; rintro e w2 ⟨rfl, hw⟩; rw [M1.out.1, M1.out.2.1, M1.out.2.2]; clear a0 a1 a2 a3 a4 a5 blt; replace HQ := Lib.hid (HQ.out.below hw); clear hw; obtain ⟨⟨a0, a1, a2⟩, a3, a4, a5⟩ := HQ.out.date.c3; have blt := HQ.out.date.lt) | (go_at_call 234; with_reducible refine (shift_c _ _ _ 1 _ _ V E2 F5 (by omega) (by omega) T1 T2).mono ?_; rintro e w2 ⟨rfl, hw⟩; rw [M2.out.1, M2.out.2.1, M2.out.2.2]; clear a0 a1 a2 a3 a4 a5 blt; replace HQ := Lib.hid (HQ.out.below hw); clear hw; obtain ⟨⟨a0, a1, a2⟩, a3, a4, a5⟩ := HQ.out.date.c3; have blt := HQ.out.date.lt) | (go_at_call 235; with_reducible refine (newMoon_c _ _ _ (Lib.hid (ht.out.below (HQ.out.bel.alloc HQ.out.bel.size _))) h1 h2 (by omega) (by omega)).mono ?_; rintro e w3 ⟨rfl, hw⟩; rw [B.out]; clear a0 a1 a2 a3 a4 a5 blt; replace HQ := Lib.hid ((HQ.out.alloc _).below hw); clear hw; obtain ⟨⟨a0, a1, a2⟩, a3, a4, a5⟩ := HQ.out.date.c3; have blt := HQ.out.date.lt))
      go_step3
      refine ⟨rfl, ?_⟩
      exact ⟨g, k + 1, _, _, _, _, _, _, _, _, _, _, _, _, _, _, _, _, _, _, _, _, _, _, _, _, rfl, by omega, by omega, Lib.hid (HQ.out.again _ _)⟩
  · rintro a' W ⟨g, k, u9, u10, u11, u12, u25, u26, u27, u28, u29, u30, u31, u32, u33, u34, u35, u36, u37, u38, u39, u40, u41, u42, u43, u44, rfl, k0, k1, HT⟩
    clear HB B0
    obtain ⟨v1, v2⟩ := dat h1 h2 (k := 13 + k) (by omega) (by omega)
    have V := Lib.hid v1
    have E := Lib.hid (show vTo y (mK (13 + k)) (dK (13 + k)) + -13 = n8 y + k by rw [v2]; omega)
    have E2 := Lib.hid (show vTo y (mK (13 + k)) (dK (13 + k)) + 1 = n8 y + (13 + (k + 1)) by rw [v2]; omega)
    obtain ⟨f1, f2, f3, f4⟩ := dat_from h1 h2 (k := k) (by omega) (by omega)
    obtain ⟨f5, f6, f7, f8⟩ := dat_from h1 h2 (k := 13 + (k + 1)) (by omega) (by omega)
    have F := Lib.hid f1
    have F5 := Lib.hid f5
    have M1 := Lib.hid (And.intro f2 (And.intro f3 f4))
    have M2 := Lib.hid (And.intro f6 (And.intro f7 f8))
    have T1 : 0 ≤ vTo y (mK (13 + k)) (dK (13 + k)) := by have := n8_in h1 h2; rw [v2]; omega
    have T2 : vTo y (mK (13 + k)) (dK (13 + k)) ≤ 365242600000 := by have := vDayOk_iff.1 f5; rw [v2]; omega
    clear v1 v2 f1 f2 f3 f4 f5 f6 f7 f8
    obtain ⟨⟨a0, a1, a2⟩, a3, a4, a5⟩ := HT.out.date.c3
    have blt := HT.out.date.lt
    have HQ := HT
    by_cases hk : k = pK (vLab y)
    · have B := Lib.hid (show bearsK k (vLab y) = true from hk ▸ pK_yes L1 L2)
      have HK := Lib.hid hk
      clear hk
      go_wp2_with (first | (go_at_call 234; with_reducible refine (shift_c _ _ _ _ _ _ V E F (by omega) (by omega) T1 T2).mono ?_; rintro e w2 ⟨rfl, hw⟩; rw [M1.out.1, M1.out.2.1, M1.out.2.2]; clear a0 a1 a2 a3 a4 a5 blt; replace HQ := Lib.hid (HQ.out.below hw); clear hw; obtain ⟨⟨a0, a1, a2⟩, a3, a4, a5⟩ := HQ.out.date.c3; have blt := HQ.out.date.lt) | (go_at_call 235; with_reducible refine (newMoon_c _ _ _ (Lib.hid (ht.out.below (HQ.out.bel.alloc HQ.out.bel.size _))) h1 h2 (by omega) (by omega)).mono ?_; rintro e w3 ⟨rfl, hw⟩; rw [B.out]; clear a0 a1 a2 a3 a4 a5 blt; replace HQ := Lib.hid ((HQ.out.alloc _).below hw); clear hw; obtain ⟨⟨a0, a1, a2⟩, a3, a4, a5⟩ := HQ.out.date.c3; have blt := HQ.out.date.lt; obtain ⟨⟨b0, b1, b2⟩, b3, b4, b5⟩ := HQ.out.res.c3; have blt2 := HQ.out.res.lt; have hgw := HQ.out.ord))
      simp only [Exit.jump]
      refine bodyPost_ret (results_ct rfl _ _ w.heap.size 39 #[.int .i64 y, .int .i64 (mK (13 + k)), .int .i64 (dK (13 + k))] (0, 0) _ rfl (((HQ.out.res.put 0 _ rfl).put 1 _ rfl).put 2 _ rfl) Tryz.underlying39 rfl (by kernel_rfl)) rfl ⟨by rw [← HK.out]; rfl, ?_⟩
      exact ((HQ.out.bel.setCell (Nat.le_refl _) _).setCell (Nat.le_refl _) _).setCell (Nat.le_refl _) _
    · have k2 : k < pK (vLab y) := by omega
      have B := Lib.hid (show bearsK k (vLab y) = false from pK_no L1 L2 (by omega) k2)
      clear hk
      go_wp2_with (first | (go_at_call 234; with_reducible refine (shift_c _ _ _ (-13) _ _ V E F (by omega) (by omega) T1 T2).mono ?_; rintro e w2 ⟨rfl, hw⟩; rw [M1.out.1, M1.out.2.1, M1.out.2.2]; clear a0 a1 a2 a3 a4 a5 blt; replace HQ := Lib.hid (HQ.out.below hw); clear hw; obtain ⟨⟨a0, a1, a2⟩, a3, a4, a5⟩ := HQ.out.date.c3; have blt := HQ.out.date.lt) | (go_at_call 234; with_reducible refine (shift_c _ _ _ 1 _ _ V E2 F5 (by omega) (by omega) T1 T2).mono ?_; rintro e w2 ⟨rfl, hw⟩; rw [M2.out.1, M2.out.2.1, M2.out.2.2]; clear a0 a1 a2 a3 a4 a5 blt; replace HQ := Lib.hid (HQ.out.below hw); clear hw; obtain ⟨⟨a0, a1, a2⟩, a3, a4, a5⟩ := HQ.out.date.c3; have blt := HQ.out.date.lt) | (go_at_call 235; with_reducible refine (newMoon_c _ _ _ (Lib.hid (ht.out.below (HQ.out.bel.alloc HQ.out.bel.size _))) h1 h2 (by omega) (by omega)).mono ?_; rintro e w3 ⟨rfl, hw⟩; rw [B.out]; clear a0 a1 a2 a3 a4 a5 blt; replace HQ := Lib.hid ((HQ.out.alloc _).below hw); clear hw; obtain ⟨⟨a0, a1, a2⟩, a3, a4, a5⟩ := HQ.out.date.c3; have blt := HQ.out.date.lt))
      have HN := HQ.out.again (mK (13 + (k + 1))) (dK (13 + (k + 1)))
      go_step3
      refine ⟨rfl, ?_, ?_⟩
      · exact ⟨g, k + 1, _, _, _, _, _, _, _, _, _, _, _, _, _, _, _, _, _, _, _, _, _, _, _, _, rfl, by omega, by omega, Lib.hid HN⟩
      · rw [moon_at (k := k + 1) rfl HN.date (by omega) (by omega), moon_at (k := k) rfl HT.out.date (by omega) (by omega)]
        omega
end Go.Proofs.YtdgaflcnigljlaaGreatDoor
/-
  Contract of the day of Easter in the Gregorian calendar, years from 1583 to 1000000000, wherever the tables lie in memory as the program text lays them.
-/
namespace Go.Proofs.YtdgaflcnigljlaaGreatDoor
open Go.RowKit Go.Proofs.YtdgaflcnigljlaaGreatDoorW.PrintWords
set_option linter.unusedVariables false
/-- The day of the paschal full moon, and Easter's. -/
def vMoon (y : Int) : Int := n8 y + (13 + pK (vLab y))
def vEas (y : Int) : Int := vMoon y + 1 + (0 - (vMoon y + 1)) % 7
theorem vAfter0 {n : Int} (h0 : -1099511627776 ≤ n) (h1 : n ≤ 1099511627776) : vAfter n 0 = n + (0 - n) % 7 ∧ vErr n 0 = 0 := by
  have e : vErr n 0 = 0 := by unfold vErr; rw [if_neg (by omega), if_neg (by omega)]
  exact ⟨by unfold vAfter; rw [if_pos e], e⟩
theorem vMoon_in {y : Int} (h1 : 1583 ≤ y) (h2 : y ≤ 1000000000) : 1 ≤ vMoon y ∧ vMoon y ≤ 365242700000 := by
  obtain ⟨l1, l2⟩ := vLab_in y
  have := pK_in l1 l2
  have := n8_in h1 h2
  unfold vMoon; omega
/-- The boxes of Day: the calendar, the year, the chain. -/
structure EBox (w W : World) (y a b : Int) : Prop where
  bel : Below w.heap.size w W
  cal : Blk W w.heap.size #[.int .i64 2] 3
  year : Blk W (w.heap.size + 1) #[.int .i64 y] 3
  chn : Blk W (w.heap.size + 2) #[.int .i64 2, .int .i64 a, .int .i64 b] 279
theorem EBox.new (w : World) (y : Int) : EBox w (((w.alloc (.cells #[.int .i64 2] 3)).alloc (.cells #[.int .i64 y] 3)).alloc (.cells #[.int .i64 2, .int .i64 0, .int .i64 0] 279)) y 0 0 :=
  ⟨(((Below.refl _ _).alloc (Nat.le_refl _) _).alloc (by simp) _).alloc (by simp; omega) _, ((Blk.new _ _ _).alloc _).alloc _, (Blk.new2 _ _ _ _).alloc _, Blk.new3 _ _ _ _ _⟩
theorem EBox.below {w W W2 : World} {y a b : Int} (h : EBox w W y a b) (hb : Below W.heap.size W W2) : EBox w W2 y a b := ⟨below_then h.bel h.bel.size hb, h.cal.below hb, h.year.below hb, h.chn.below hb⟩
theorem EBox.alloc {w W : World} {y a b : Int} (h : EBox w W y a b) (o : Obj) : EBox w (W.alloc o) y a b := ⟨h.bel.alloc h.bel.size o, h.cal.alloc o, h.year.alloc o, h.chn.alloc o⟩
theorem EBox.set {w W : World} {y a b : Int} (h : EBox w W y a b) (a' b' : Int) : EBox w ((W.setCell ⟨w.heap.size + 2, 1, none⟩ (.int .i64 a')).setCell ⟨w.heap.size + 2, 2, none⟩ (.int .i64 b')) y a' b' :=
  ⟨(h.bel.setCell (by simp) _).setCell (by simp) _, (h.cal.far (by simp) _).far (by simp) _, (h.year.far (by simp) _).far (by simp) _, (h.chn.put 1 _ rfl).put 2 _ rfl⟩
set_option maxHeartbeats 1000000 in
theorem easter_c (y : Int) (w : World) (ht : Hid (Tabs w)) (h1 : 1583 ≤ y) (h2 : y ≤ 1000000000) : Calls Tryz.prog 188 #[.int .i64 2, .int .i64 y] w fun e w' => e = .returned (.tuple #[.int .i64 (vEas y), .int .i64 0]) ∧ Below w.heap.size w w' := by
  have hmf := @closF Tryz.prog
  obtain ⟨l1, l2⟩ := vLab_in y
  obtain ⟨p1, p2⟩ := pK_in l1 l2
  obtain ⟨v1, v2⟩ := dat h1 h2 (k := 13 + pK (vLab y)) (by omega) (by omega)
  obtain ⟨m1, m2⟩ := vMoon_in h1 h2
  obtain ⟨a1, a2⟩ := vAfter0 (n := vMoon y + 1) (by omega) (by omega)
  have V := Lib.hid v1
  have E := Lib.hid (show vTo y (mK (13 + pK (vLab y))) (dK (13 + pK (vLab y))) = vMoon y from v2)
  have A := Lib.hid (show vAfter (vMoon y + 1) 0 = vEas y from a1)
  have A2 := Lib.hid a2
  clear v1 v2 a1 a2
  go_enter Tryz.func188, Tryz.ntmps188
  have HE := Lib.hid (EBox.new w y)
  go_wp2_with (first | (go_at_call 214; go_in) | (go_at_call 215; go_in) | (go_at_call 217; go_in) | (go_at_call 216; with_reducible refine (fullMoon_c _ _ (Lib.hid (ht.out.below HE.out.bel)) h1 h2).mono ?_; rintro e w1 ⟨rfl, hw⟩; replace HE := Lib.hid (HE.out.below hw); clear hw; obtain ⟨c0, c1⟩ := HE.out.cal.c1; obtain ⟨d0, d1⟩ := HE.out.year.c1; obtain ⟨⟨e0, e1, e2⟩, e3, e4, e5⟩ := HE.out.chn.c3; have t0 := HE.out.cal.lt; have t1 := HE.out.year.lt; have t2 := HE.out.chn.lt) | (go_at_call 152; with_reducible refine (civTo_c _ _ _ _ V).mono ?_; rintro e w2 ⟨rfl, hw⟩; rw [E.out]; replace HE := Lib.hid ((HE.out.alloc _).below hw); clear hw c0 c1 d0 d1 e0 e1 e2 e3 e4 e5 t0 t1 t2; obtain ⟨c0, c1⟩ := HE.out.cal.c1; obtain ⟨d0, d1⟩ := HE.out.year.c1; obtain ⟨⟨e0, e1, e2⟩, e3, e4, e5⟩ := HE.out.chn.c3; have t0 := HE.out.cal.lt; have t1 := HE.out.year.lt; have t2 := HE.out.chn.lt) | (go_at_call 139; with_reducible refine (after_c _ _ _).mono ?_; rintro e w3 ⟨rfl, hw⟩; rw [A.out, A2.out]; replace HE := Lib.hid ((HE.out.set (vMoon y) 0).below hw); clear hw c0 c1 d0 d1 e0 e1 e2 e3 e4 e5 t0 t1 t2; obtain ⟨c0, c1⟩ := HE.out.cal.c1; obtain ⟨d0, d1⟩ := HE.out.year.c1; obtain ⟨⟨e0, e1, e2⟩, e3, e4, e5⟩ := HE.out.chn.c3; have t0 := HE.out.cal.lt; have t1 := HE.out.year.lt; have t2 := HE.out.chn.lt))
  have HF := Lib.hid (HE.out.set (vEas y) 0)
  generalize hW : (w3.setCell ⟨w.heap.size + 2, 1, none⟩ (.int .i64 (vEas y))).setCell ⟨w.heap.size + 2, 2, none⟩ (.int .i64 0) = W at HF
  clear hW HE c0 c1 d0 d1 e0 e1 e2 e3 e4 e5 t0 t1 t2
  obtain ⟨⟨e0, e1, e2⟩, _⟩ : (W.cell? ⟨w.heap.size + 1 + 1, 0, none⟩ = some (.int .i64 2) ∧ W.cell? ⟨w.heap.size + 1 + 1, 1, none⟩ = some (.int .i64 (vEas y)) ∧ W.cell? ⟨w.heap.size + 1 + 1, 2, none⟩ = some (.int .i64 0)) ∧ _ := HF.out.chn.c3
  have HB := Lib.hid HF.out.bel
  clear HF
  go_quiet (fail)
  go_wp2_with fail
  go_ret2
  exact ⟨rfl, below_drewN HB.out _⟩
end Go.Proofs.YtdgaflcnigljlaaGreatDoor
/-
  Contracts of package anchor at well-formed anchors: the kind's value, the check, the day of a year from 1583 to 1000000000, wherever the tables lie in memory as the program text lays them.
-/
namespace Go.Proofs.YtdgaflcnigljlaaGreatDoor
open Go.RowKit Go.Proofs.YtdgaflcnigljlaaGreatDoorW.PrintWords
set_option linter.unusedVariables false
set_option maxHeartbeats 400000 in
theorem of_fixed (m d : Int) (w : World) : Calls Tryz.prog 172 #[.agg #[.int .i64 1, .int .i64 m, .int .i64 d, .int .i64 0, .int .i64 0, .int .i64 0]] w fun e w' => e = .returned (.iface 265 (.agg #[.int .i64 m, .int .i64 d])) ∧ Below w.heap.size w w' := by
  have HB := fun (a b c d' e f : Int) => ((Below.refl w.heap.size w).alloc (Nat.le_refl _) (.cells #[.int .i64 1, .int .i64 m, .int .i64 d, .int .i64 0, .int .i64 0, .int .i64 0] 59)).alloc (by simp) (.cells #[.int .i64 a, .int .i64 b, .int .i64 c, .int .i64 d', .int .i64 e, .int .i64 f] 59)
  go_enter Tryz.func172, Tryz.ntmps172
  go_wp2
  go_ret
  exact ⟨rfl, HB 0 0 0 0 0 0⟩
set_option maxHeartbeats 400000 in
theorem of_pas (o : Int) (w : World) : Calls Tryz.prog 172 #[.agg #[.int .i64 2, .int .i64 0, .int .i64 0, .int .i64 o, .int .i64 0, .int .i64 0]] w fun e w' => e = .returned (.iface 267 (.agg #[.int .i64 o])) ∧ Below w.heap.size w w' := by
  have HB := fun (a b c d' e f : Int) => ((Below.refl w.heap.size w).alloc (Nat.le_refl _) (.cells #[.int .i64 2, .int .i64 0, .int .i64 0, .int .i64 o, .int .i64 0, .int .i64 0] 59)).alloc (by simp) (.cells #[.int .i64 a, .int .i64 b, .int .i64 c, .int .i64 d', .int .i64 e, .int .i64 f] 59)
  go_enter Tryz.func172, Tryz.ntmps172
  go_wp2
  go_ret
  exact ⟨rfl, HB 0 0 0 0 0 0⟩
set_option maxHeartbeats 400000 in
theorem of_nth (m d wd c : Int) (w : World) : Calls Tryz.prog 172 #[.agg #[.int .i64 3, .int .i64 m, .int .i64 d, .int .i64 0, .int .i64 wd, .int .i64 c]] w fun e w' => e = .returned (.iface 269 (.agg #[.int .i64 m, .int .i64 d, .int .i64 wd, .int .i64 c])) ∧ Below w.heap.size w w' := by
  have HB := fun (a b c' d' e f : Int) => ((Below.refl w.heap.size w).alloc (Nat.le_refl _) (.cells #[.int .i64 3, .int .i64 m, .int .i64 d, .int .i64 0, .int .i64 wd, .int .i64 c] 59)).alloc (by simp) (.cells #[.int .i64 a, .int .i64 b, .int .i64 c', .int .i64 d', .int .i64 e, .int .i64 f] 59)
  go_enter Tryz.func172, Tryz.ntmps172
  go_wp2
  go_ret
  exact ⟨rfl, HB 0 m d 0 wd c⟩
theorem Blk.c4 {w : World} {g : Nat} {a b c d : Value} {t : TypeId} (h : Blk w g #[a, b, c, d] t) : (w.cell? ⟨g, 0, none⟩ = some a ∧ w.cell? ⟨g, 1, none⟩ = some b ∧ w.cell? ⟨g, 2, none⟩ = some c ∧ w.cell? ⟨g, 3, none⟩ = some d) ∧ g < w.heap.size := ⟨⟨h.cell 0, h.cell 1, h.cell 2, h.cell 3⟩, h.lt⟩
theorem Blk.c6 {w : World} {g : Nat} {a b c d e f : Value} {t : TypeId} (h : Blk w g #[a, b, c, d, e, f] t) : (w.cell? ⟨g, 0, none⟩ = some a ∧ w.cell? ⟨g, 1, none⟩ = some b ∧ w.cell? ⟨g, 2, none⟩ = some c ∧ w.cell? ⟨g, 3, none⟩ = some d ∧ w.cell? ⟨g, 4, none⟩ = some e ∧ w.cell? ⟨g, 5, none⟩ = some f) ∧ g < w.heap.size := ⟨⟨h.cell 0, h.cell 1, h.cell 2, h.cell 3, h.cell 4, h.cell 5⟩, h.lt⟩
theorem leap2001 : vLeap 2001 = false := by decide
set_option maxHeartbeats 400000 in
theorem fixed_valid (m d : Int) (w : World) (h1 : 1 ≤ d) (h2 : d ≤ vLen false m) : Calls Tryz.prog 297 #[.agg #[.int .i64 m, .int .i64 d]] w fun e w' => e = .returned (.bool true) ∧ Below w.heap.size w w' := by
  have b1 : decide (1 ≤ d) = true := by simpa using h1
  have R := Lib.hid (show decide (d ≤ vLen (vLeap 2001) m) = true by rw [leap2001]; simpa using h2)
  go_enter Tryz.func297, Tryz.ntmps297
  go_wp2_with fail
  go_quiet ((go_at_call 137; exact Calls.quiet_of_same (flip (length_c _ _ _))))
  go_wp2_with fail
  go_ret
  exact ⟨ret_bool R.out, below_drewN ((Below.refl _ _).alloc (Nat.le_refl _) _) _⟩
set_option maxHeartbeats 400000 in
theorem fixed_day (y m d : Int) (w : World) (h : Hid (vValid y m d = true)) : Calls Tryz.prog 296 #[.agg #[.int .i64 m, .int .i64 d], .int .i64 y] w fun e w' => e = .returned (.tuple #[.int .i64 (vTo y m d), .int .i64 0]) ∧ Below w.heap.size w w' := by
  go_enter Tryz.func296, Tryz.ntmps296
  go_wp2_with (first | (go_at_call 177; with_reducible refine (toOk_c _ _ _ _ h.out).mono ?_; rintro e w1 ⟨rfl, hw⟩))
  go_ret2
  exact ⟨rfl, ((Below.refl _ _).alloc (Nat.le_refl _) _).trans (hw.mono (by simp))⟩
set_option maxHeartbeats 400000 in
theorem pas_valid (o : Int) (w : World) (h1 : -80 ≤ o) (h2 : o ≤ 250) : Calls Tryz.prog 299 #[.agg #[.int .i64 o]] w fun e w' => e = .returned (.bool true) ∧ Below w.heap.size w w' := by
  have b1 : decide (-80 ≤ o) = true := by simpa using h1
  have b2 : decide (o ≤ 250) = true := by simpa using h2
  go_enter Tryz.func299, Tryz.ntmps299
  go_wp2
  go_ret
  exact ⟨rfl, ((Below.refl _ _).alloc (Nat.le_refl _) _)⟩
theorem vEas_in {y : Int} (h1 : 1583 ≤ y) (h2 : y ≤ 1000000000) : 1 ≤ vEas y ∧ vEas y ≤ 365242800000 := by have := vMoon_in h1 h2; unfold vEas; omega
set_option maxHeartbeats 400000 in
theorem pas_day (y o : Int) (w : World) (ht : Hid (Tabs w)) (h1 : 1583 ≤ y) (h2 : y ≤ 1000000000) (o1 : -80 ≤ o) (o2 : o ≤ 250) : Calls Tryz.prog 298 #[.agg #[.int .i64 o], .int .i64 y] w fun e w' => e = .returned (.tuple #[.int .i64 (vEas y + o), .int .i64 0]) ∧ Below w.heap.size w w' := by
  have HB := (Below.refl w.heap.size w).alloc (Nat.le_refl _) (.cells #[.int .i64 o] 267)
  have B0 := Blk.new w #[.int .i64 o] 267
  obtain ⟨e1, e2⟩ := vEas_in h1 h2
  go_enter Tryz.func298, Tryz.ntmps298
  go_wp2_with (first | (go_at_call 188; with_reducible refine (easter_c _ _ (Lib.hid (ht.out.below HB)) h1 h2).mono ?_; rintro e w1 ⟨rfl, hw⟩; replace B0 := B0.below hw; replace HB := below_then HB (by simp) hw; clear hw; obtain ⟨a0, a1⟩ := B0.c1; have blt := B0.lt))
  go_ret2
  exact ⟨rfl, HB⟩
/-- the day of the year, the first being 1, in a common year -/
def doyC (m d : Int) : Int := vCum false m + d
theorem vTo2001 (m d : Int) : vTo 2001 m d - vFirst 2001 + 1 = doyC m d := by unfold vTo doyC; rw [leap2001]; omega
def NthOk (m d wd c : Int) : Prop := 1 ≤ d ∧ d ≤ vLen false m ∧ 0 ≤ wd ∧ wd ≤ 6 ∧ ((1 ≤ c ∧ c ≤ 8 ∧ doyC m d + 7 * c - 1 ≤ 365) ∨ (-8 ≤ c ∧ c ≤ -1 ∧ 1 ≤ doyC m d + 7 * c + 1))
theorem exists_valid {y m d : Int} (h1 : 1 ≤ y) (h2 : y ≤ 1000000000) (a : 1 ≤ d) (b : d ≤ vLen false m) : vValid y m d = true := by
  refine vValid_iff.2 ⟨⟨h1, h2⟩, a, Int.le_trans b ?_⟩
  cases vLeap y
  · exact Int.le_refl _
  · unfold vLen lp; repeat' split
    all_goals first | omega | (simp at *; done)
theorem vFst2001 : vFst 2001 = vFirst 2001 ∧ vFstE 2001 = 0 := by decide
set_option maxHeartbeats 400000 in
theorem nth_valid (m d wd c : Int) (w : World) (h : NthOk m d wd c) : Calls Tryz.prog 301 #[.agg #[.int .i64 m, .int .i64 d, .int .i64 wd, .int .i64 c]] w fun e w' => e = .returned (.bool true) ∧ Below w.heap.size w w' := by
  have HB := (Below.refl w.heap.size w).alloc (Nat.le_refl _) (.cells #[.int .i64 m, .int .i64 d, .int .i64 wd, .int .i64 c] 269)
  have B0 := Lib.hid (Blk.new w #[.int .i64 m, .int .i64 d, .int .i64 wd, .int .i64 c] 269)
  obtain ⟨h1, h2, h3, h4, h5⟩ := h
  have V := Lib.hid (exists_valid (y := 2001) (m := m) (by omega) (by omega) h1 h2)
  have D := Lib.hid (vTo2001 m d)
  have b3 : decide (wd < 0) = false := by simpa using h3
  have b4 : decide (6 < wd) = false := by simpa using h4
  have m12 : 1 ≤ m ∧ m ≤ 12 := vValid_month V.out
  have q1 : 1 ≤ doyC m d ∧ doyC m d ≤ 400 := by
    have := @vCum_le false m (by omega)
    have := vLen_le false m
    unfold doyC; simp [lp] at *; omega
  obtain ⟨q1, q2⟩ := q1
  have f1 : 1 ≤ vFirst 2001 := by decide
  have f2 : vFirst 2001 ≤ 1000000 := by decide
  have F := Lib.hid (show vTo 2001 m d = vFirst 2001 + doyC m d - 1 by have := vTo2001 m d; omega)
  have G := Lib.hid vFst2001
  generalize vFirst 2001 = F1 at *
  generalize doyC m d = D1 at *
  clear h3 h4
  rcases h5 with ⟨c1, c2, c3⟩ | ⟨c1, c2, c3⟩
  · have b5 : decide (1 ≤ c) = true := by simpa using c1
    have b6 : decide (c ≤ 8) = true := by simpa using c2
    have R := Lib.hid (show decide (D1 + 7 * c - 1 ≤ 365) = true by simpa using c3)
    go_enter Tryz.func301, Tryz.ntmps301
    go_wp2_with (first | (go_at_call 297; with_reducible refine (fixed_valid _ _ _ h1 h2).mono ?_; rintro e w1 ⟨rfl, hw⟩; replace B0 := Lib.hid (B0.out.below hw); replace HB := below_then HB HB.size hw; clear hw; (try clear a0 a1 a2 a3 blt); obtain ⟨⟨a0, a1, a2, a3⟩, blt⟩ := B0.out.c4) | (go_at_call 296; with_reducible refine (fixed_day _ _ _ _ V).mono ?_; rintro e w1 ⟨rfl, hw⟩; rw [F.out]; replace B0 := Lib.hid (B0.out.below hw); replace HB := below_then HB HB.size hw; clear hw; (try clear a0 a1 a2 a3 blt); obtain ⟨⟨a0, a1, a2, a3⟩, blt⟩ := B0.out.c4) | (go_at_call 60; with_reducible refine (First_c _ _).mono ?_; rintro e w1 ⟨rfl, rfl⟩; rw [G.out.1, G.out.2]))
    go_ret
    exact ⟨ret_bool (by rw [decide_eq_true_eq]; omega), HB⟩
  · have b5 : decide (1 ≤ c) = false := by simp; omega
    have b6 : decide (c ≤ -1) = true := by simpa using c2
    have b7 : decide (-8 ≤ c) = true := by simpa using c1
    have R := Lib.hid (show decide (1 ≤ D1 + 7 * c + 1) = true by simpa using c3)
    go_enter Tryz.func301, Tryz.ntmps301
    go_wp2_with (first | (go_at_call 297; with_reducible refine (fixed_valid _ _ _ h1 h2).mono ?_; rintro e w1 ⟨rfl, hw⟩; replace B0 := Lib.hid (B0.out.below hw); replace HB := below_then HB HB.size hw; clear hw; (try clear a0 a1 a2 a3 blt); obtain ⟨⟨a0, a1, a2, a3⟩, blt⟩ := B0.out.c4) | (go_at_call 296; with_reducible refine (fixed_day _ _ _ _ V).mono ?_; rintro e w1 ⟨rfl, hw⟩; rw [F.out]; replace B0 := Lib.hid (B0.out.below hw); replace HB := below_then HB HB.size hw; clear hw; (try clear a0 a1 a2 a3 blt); obtain ⟨⟨a0, a1, a2, a3⟩, blt⟩ := B0.out.c4) | (go_at_call 60; with_reducible refine (First_c _ _).mono ?_; rintro e w1 ⟨rfl, rfl⟩; rw [G.out.1, G.out.2]))
    go_ret
    exact ⟨ret_bool (by rw [decide_eq_true_eq]; omega), HB⟩
theorem nth_err {n wd c : Int} (h1 : 0 ≤ wd) (h2 : wd ≤ 6) (h3 : c ≠ 0) (h4 : -8 ≤ c) (h5 : c ≤ 8) (h6 : 0 ≤ n) (h7 : n ≤ 365242900000) : vNthE n wd c = 0 := by
  unfold vNthE; rw [if_neg (by omega)]; unfold vErr; rw [if_neg (by omega), if_neg (by omega)]
theorem to_in {y m d : Int} (h : vValid y m d = true) : 1 ≤ vTo y m d ∧ vTo y m d < 365242500001 := (to_from h).1
set_option maxHeartbeats 400000 in
theorem nth_day (y m d wd c : Int) (w : World) (h : NthOk m d wd c) (y1 : 1 ≤ y) (y2 : y ≤ 1000000000) : Calls Tryz.prog 300 #[.agg #[.int .i64 m, .int .i64 d, .int .i64 wd, .int .i64 c], .int .i64 y] w fun e w' => e = .returned (.tuple #[.int .i64 (vNth (vTo y m d) wd c), .int .i64 0]) ∧ Below w.heap.size w w' := by
  have HB := (Below.refl w.heap.size w).alloc (Nat.le_refl _) (.cells #[.int .i64 m, .int .i64 d, .int .i64 wd, .int .i64 c] 269)
  have B0 := Lib.hid (Blk.new w #[.int .i64 m, .int .i64 d, .int .i64 wd, .int .i64 c] 269)
  obtain ⟨h1, h2, h3, h4, h5⟩ := h
  have v := exists_valid (y := y) (m := m) y1 y2 h1 h2
  have V := Lib.hid v
  obtain ⟨t1, t2⟩ := to_in v
  have E := Lib.hid (nth_err (n := vTo y m d) (c := c) h3 h4 (by omega) (by omega) (by omega) (by omega) (by omega))
  clear v h5
  go_enter Tryz.func300, Tryz.ntmps300
  go_wp2_with (first | (go_at_call 296; with_reducible refine (fixed_day _ _ _ _ V).mono ?_; rintro e w1 ⟨rfl, hw⟩; replace B0 := Lib.hid (B0.out.below hw); replace HB := below_then HB HB.size hw; clear hw; (try clear a0 a1 a2 a3 blt); obtain ⟨⟨a0, a1, a2, a3⟩, blt⟩ := B0.out.c4) | (go_at_call 302; with_reducible refine (nth_c _ _ _ _).mono ?_; rintro e w1 ⟨rfl, hw⟩; rw [E.out]; replace HB := below_then HB HB.size hw; clear hw))
  go_ret2
  exact ⟨rfl, HB⟩

/-! the check and the day, through the interface -/
/-- An anchor is well-formed. -/
def AncOk (k m d o wd c : Int) : Prop :=
  (k = 1 ∧ 1 ≤ d ∧ d ≤ vLen false m ∧ o = 0 ∧ wd = 0 ∧ c = 0) ∨ (k = 2 ∧ m = 0 ∧ d = 0 ∧ wd = 0 ∧ c = 0 ∧ -80 ≤ o ∧ o ≤ 250) ∨ (k = 3 ∧ o = 0 ∧ NthOk m d wd c)
def vAnc (y k m d o wd c : Int) : Int := if k = 2 then vEas y + o else if k = 3 then vNth (vTo y m d) wd c else vTo y m d
theorem mv265 (v : Value) (w : World) : (method 435 265 v "computus/anchor.valid").run Tryz.prog w = .ok (297, v) w := by kernel_rfl
theorem mv267 (v : Value) (w : World) : (method 435 267 v "computus/anchor.valid").run Tryz.prog w = .ok (299, v) w := by kernel_rfl
theorem mv269 (v : Value) (w : World) : (method 435 269 v "computus/anchor.valid").run Tryz.prog w = .ok (301, v) w := by kernel_rfl
theorem md265 (v : Value) (w : World) : (method 435 265 v "computus/anchor.day").run Tryz.prog w = .ok (296, v) w := by kernel_rfl
theorem md267 (v : Value) (w : World) : (method 435 267 v "computus/anchor.day").run Tryz.prog w = .ok (298, v) w := by kernel_rfl
theorem md269 (v : Value) (w : World) : (method 435 269 v "computus/anchor.day").run Tryz.prog w = .ok (300, v) w := by kernel_rfl
set_option maxRecDepth 30000 in
set_option maxHeartbeats 400000 in
theorem check1 (m d : Int) (w : World) (h1 : 1 ≤ d) (h2 : d ≤ vLen false m) : Calls Tryz.prog 171 #[.agg #[.int .i64 1, .int .i64 m, .int .i64 d, .int .i64 0, .int .i64 0, .int .i64 0]] w fun e w' => e = .returned (.bool true) ∧ Below w.heap.size w w' := by
  have HB := (Below.refl w.heap.size w).alloc (Nat.le_refl _) (.cells #[.int .i64 1, .int .i64 m, .int .i64 d, .int .i64 0, .int .i64 0, .int .i64 0] 59)
  have m1 := mv265
  go_enter Tryz.func171, Tryz.ntmps171
  go_wp2_with (first | (go_at_call 172; with_reducible refine (of_fixed _ _ _).mono ?_; rintro e w1 ⟨rfl, hw⟩; replace HB := below_then HB HB.size hw; clear hw) | (go_at_call 297; with_reducible refine (fixed_valid _ _ _ h1 h2).mono ?_; rintro e w1 ⟨rfl, hw⟩; replace HB := below_then HB HB.size hw; clear hw))
  go_ret
  exact ⟨rfl, HB⟩
set_option maxRecDepth 30000 in
set_option maxHeartbeats 400000 in
theorem check2 (o : Int) (w : World) (h1 : -80 ≤ o) (h2 : o ≤ 250) : Calls Tryz.prog 171 #[.agg #[.int .i64 2, .int .i64 0, .int .i64 0, .int .i64 o, .int .i64 0, .int .i64 0]] w fun e w' => e = .returned (.bool true) ∧ Below w.heap.size w w' := by
  have HB := (Below.refl w.heap.size w).alloc (Nat.le_refl _) (.cells #[.int .i64 2, .int .i64 0, .int .i64 0, .int .i64 o, .int .i64 0, .int .i64 0] 59)
  have m1 := mv267
  go_enter Tryz.func171, Tryz.ntmps171
  go_wp2_with (first | (go_at_call 172; with_reducible refine (of_pas _ _).mono ?_; rintro e w1 ⟨rfl, hw⟩; replace HB := below_then HB HB.size hw; clear hw) | (go_at_call 299; with_reducible refine (pas_valid _ _ h1 h2).mono ?_; rintro e w1 ⟨rfl, hw⟩; replace HB := below_then HB HB.size hw; clear hw))
  go_ret
  exact ⟨rfl, HB⟩
set_option maxRecDepth 30000 in
set_option maxHeartbeats 400000 in
theorem check3 (m d wd c : Int) (w : World) (h : Hid (NthOk m d wd c)) : Calls Tryz.prog 171 #[.agg #[.int .i64 3, .int .i64 m, .int .i64 d, .int .i64 0, .int .i64 wd, .int .i64 c]] w fun e w' => e = .returned (.bool true) ∧ Below w.heap.size w w' := by
  have HB := (Below.refl w.heap.size w).alloc (Nat.le_refl _) (.cells #[.int .i64 3, .int .i64 m, .int .i64 d, .int .i64 0, .int .i64 wd, .int .i64 c] 59)
  have m1 := mv269
  go_enter Tryz.func171, Tryz.ntmps171
  go_wp2_with (first | (go_at_call 172; with_reducible refine (of_nth _ _ _ _ _).mono ?_; rintro e w1 ⟨rfl, hw⟩; replace HB := below_then HB HB.size hw; clear hw) | (go_at_call 301; with_reducible refine (nth_valid _ _ _ _ _ h.out).mono ?_; rintro e w1 ⟨rfl, hw⟩; replace HB := below_then HB HB.size hw; clear hw))
  go_ret
  exact ⟨rfl, HB⟩
theorem chk_c (k m d o wd c : Int) (w : World) (h : AncOk k m d o wd c) : Calls Tryz.prog 171 #[.agg #[.int .i64 k, .int .i64 m, .int .i64 d, .int .i64 o, .int .i64 wd, .int .i64 c]] w fun e w' => e = .returned (.bool true) ∧ Below w.heap.size w w' := by
  rcases h with ⟨rfl, a, b, rfl, rfl, rfl⟩ | ⟨rfl, rfl, rfl, rfl, rfl, a, b⟩ | ⟨rfl, rfl, h⟩
  · exact check1 m d w a b
  · exact check2 o w a b
  · exact check3 m d wd c w (Lib.hid h)
set_option maxRecDepth 30000 in
set_option maxHeartbeats 400000 in
theorem aday1 (y : Int) (m d : Int) (w : World) (ht : Hid (Tabs w)) (y1 : 1583 ≤ y) (y2 : y ≤ 1000000000) (h1 : 1 ≤ d) (h2 : d ≤ vLen false m) (V : Hid (vValid y m d = true)) : Calls Tryz.prog 129 #[.agg #[.int .i64 1, .int .i64 m, .int .i64 d, .int .i64 0, .int .i64 0, .int .i64 0], .int .i64 y] w fun e w' => e = .returned (.tuple #[.int .i64 (vTo y m d), .int .i64 0]) ∧ Below w.heap.size w w' := by
  have HB := (Below.refl w.heap.size w).alloc (Nat.le_refl _) (.cells #[.int .i64 1, .int .i64 m, .int .i64 d, .int .i64 0, .int .i64 0, .int .i64 0] 59)
  have B0 := Lib.hid (Blk.new w #[.int .i64 1, .int .i64 m, .int .i64 d, .int .i64 0, .int .i64 0, .int .i64 0] 59)
  have m1 := md265
  have b1 : decide (y < 1583) = false := by simpa using y1
  have b2 : decide (1000000000 < y) = false := by simpa using y2
  go_enter Tryz.func129, Tryz.ntmps129
  go_wp2_with (first | (go_at_call 171; with_reducible refine (check1 _ _ _ h1 h2).mono ?_; rintro e w1 ⟨rfl, hw⟩; replace B0 := Lib.hid (B0.out.below hw); replace HB := below_then HB HB.size hw; clear hw; obtain ⟨⟨a0, a1, a2, a3, a4, a5⟩, blt⟩ := B0.out.c6) | (go_at_call 172; with_reducible refine (of_fixed _ _ _).mono ?_; rintro e w1 ⟨rfl, hw⟩; replace HB := below_then HB HB.size hw; clear hw; clear a0 a1 a2 a3 a4 a5 blt) | (go_at_call 296; with_reducible refine (fixed_day _ _ _ _ V).mono ?_; rintro e w1 ⟨rfl, hw⟩; replace HB := below_then HB HB.size hw; clear hw))
  go_ret2
  exact ⟨rfl, HB⟩
set_option maxRecDepth 30000 in
set_option maxHeartbeats 400000 in
theorem aday2 (y : Int) (o : Int) (w : World) (ht : Hid (Tabs w)) (y1 : 1583 ≤ y) (y2 : y ≤ 1000000000) (h1 : -80 ≤ o) (h2 : o ≤ 250) : Calls Tryz.prog 129 #[.agg #[.int .i64 2, .int .i64 0, .int .i64 0, .int .i64 o, .int .i64 0, .int .i64 0], .int .i64 y] w fun e w' => e = .returned (.tuple #[.int .i64 (vEas y + o), .int .i64 0]) ∧ Below w.heap.size w w' := by
  have HB := (Below.refl w.heap.size w).alloc (Nat.le_refl _) (.cells #[.int .i64 2, .int .i64 0, .int .i64 0, .int .i64 o, .int .i64 0, .int .i64 0] 59)
  have B0 := Lib.hid (Blk.new w #[.int .i64 2, .int .i64 0, .int .i64 0, .int .i64 o, .int .i64 0, .int .i64 0] 59)
  have m1 := md267
  have b1 : decide (y < 1583) = false := by simpa using y1
  have b2 : decide (1000000000 < y) = false := by simpa using y2
  go_enter Tryz.func129, Tryz.ntmps129
  go_wp2_with (first | (go_at_call 171; with_reducible refine (check2 _ _ h1 h2).mono ?_; rintro e w1 ⟨rfl, hw⟩; replace B0 := Lib.hid (B0.out.below hw); replace HB := below_then HB HB.size hw; clear hw; obtain ⟨⟨a0, a1, a2, a3, a4, a5⟩, blt⟩ := B0.out.c6) | (go_at_call 172; with_reducible refine (of_pas _ _).mono ?_; rintro e w1 ⟨rfl, hw⟩; replace HB := below_then HB HB.size hw; clear hw; clear a0 a1 a2 a3 a4 a5 blt) | (go_at_call 298; with_reducible refine (pas_day _ _ _ (Lib.hid (ht.out.below HB)) y1 y2 h1 h2).mono ?_; rintro e w1 ⟨rfl, hw⟩; replace HB := below_then HB HB.size hw; clear hw))
  go_ret2
  exact ⟨rfl, HB⟩
set_option maxRecDepth 30000 in
set_option maxHeartbeats 400000 in
theorem aday3 (y : Int) (m d wd c : Int) (w : World) (ht : Hid (Tabs w)) (y1 : 1583 ≤ y) (y2 : y ≤ 1000000000) (h : Hid (NthOk m d wd c)) : Calls Tryz.prog 129 #[.agg #[.int .i64 3, .int .i64 m, .int .i64 d, .int .i64 0, .int .i64 wd, .int .i64 c], .int .i64 y] w fun e w' => e = .returned (.tuple #[.int .i64 (vNth (vTo y m d) wd c), .int .i64 0]) ∧ Below w.heap.size w w' := by
  have HB := (Below.refl w.heap.size w).alloc (Nat.le_refl _) (.cells #[.int .i64 3, .int .i64 m, .int .i64 d, .int .i64 0, .int .i64 wd, .int .i64 c] 59)
  have B0 := Lib.hid (Blk.new w #[.int .i64 3, .int .i64 m, .int .i64 d, .int .i64 0, .int .i64 wd, .int .i64 c] 59)
  have m1 := md269
  have b1 : decide (y < 1583) = false := by simpa using y1
  have b2 : decide (1000000000 < y) = false := by simpa using y2
  go_enter Tryz.func129, Tryz.ntmps129
  go_wp2_with (first | (go_at_call 171; with_reducible refine (check3 _ _ _ _ _ h).mono ?_; rintro e w1 ⟨rfl, hw⟩; replace B0 := Lib.hid (B0.out.below hw); replace HB := below_then HB HB.size hw; clear hw; obtain ⟨⟨a0, a1, a2, a3, a4, a5⟩, blt⟩ := B0.out.c6) | (go_at_call 172; with_reducible refine (of_nth _ _ _ _ _).mono ?_; rintro e w1 ⟨rfl, hw⟩; replace HB := below_then HB HB.size hw; clear hw; clear a0 a1 a2 a3 a4 a5 blt) | (go_at_call 300; with_reducible refine (nth_day _ _ _ _ _ _ h.out (by omega) y2).mono ?_; rintro e w1 ⟨rfl, hw⟩; replace HB := below_then HB HB.size hw; clear hw))
  go_ret2
  exact ⟨rfl, HB⟩
theorem day_c (y k m d o wd c : Int) (w : World) (ht : Hid (Tabs w)) (y1 : 1583 ≤ y) (y2 : y ≤ 1000000000) (h : AncOk k m d o wd c) : Calls Tryz.prog 129 #[.agg #[.int .i64 k, .int .i64 m, .int .i64 d, .int .i64 o, .int .i64 wd, .int .i64 c], .int .i64 y] w fun e w' => e = .returned (.tuple #[.int .i64 (vAnc y k m d o wd c), .int .i64 0]) ∧ Below w.heap.size w w' := by
  unfold vAnc
  rcases h with ⟨rfl, a, b, rfl, rfl, rfl⟩ | ⟨rfl, rfl, rfl, rfl, rfl, a, b⟩ | ⟨rfl, rfl, h⟩
  · exact aday1 y m d w ht y1 y2 a b (Lib.hid (exists_valid (by omega) y2 a b))
  · exact aday2 y o w ht y1 y2 a b
  · exact aday3 y m d wd c w ht y1 y2 (Lib.hid h)
end Go.Proofs.YtdgaflcnigljlaaGreatDoor
/-
  Contracts of small functions of the references 02, 05 to 08. No further condition.
-/
namespace Go.Proofs.YtdgaflcnigljlaaGreatDoor
open Go.RowKit Go.Proofs.YtdgaflcnigljlaaGreatDoorW.PrintWords
set_option linter.unusedVariables false
def vInG (y : Int) : Bool := decide (1583 ≤ y ∧ y ≤ 1000000000)
theorem vInG_iff {y : Int} : vInG y = true ↔ 1583 ≤ y ∧ y ≤ 1000000000 := by simp [vInG]
set_option maxHeartbeats 400000 in
theorem ringreg_c (y : Int) (w : World) : Calls Tryz.prog 9 #[.int .i64 y] w fun e w' => e = .returned (.bool (vInG y)) ∧ w = w' := by
  go_enter Tryz.func9, Tryz.ntmps9
  go_wp2
  all_goals (go_ret; exact ⟨ret_bool (by unfold vInG; rw [Bool.eq_iff_iff]; simp; omega), rfl⟩)
/-- The order of dates. -/
def dLt (a b c x y z : Int) : Bool := decide (a < x ∨ (a = x ∧ (b < y ∨ (b = y ∧ c < z))))
set_option maxHeartbeats 400000 in
theorem rless_c (a b c x y z : Int) (w : World) : Calls Tryz.prog 39 #[.agg #[.int .i64 a, .int .i64 b, .int .i64 c], .agg #[.int .i64 x, .int .i64 y, .int .i64 z]] w fun e w' => e = .returned (.bool (dLt a b c x y z)) ∧ Below w.heap.size w w' := by
  have HB := ((Below.refl w.heap.size w).alloc (Nat.le_refl _) (.cells #[.int .i64 a, .int .i64 b, .int .i64 c] 39)).alloc (by simp) (.cells #[.int .i64 x, .int .i64 y, .int .i64 z] 39)
  have HS : Hid (∀ p, p = dLt a b c x y z → .returned (.bool p) = Ending.returned (.bool (dLt a b c x y z))) := Lib.hid (fun p h => by rw [h])
  by_cases h1 : a = x
  · by_cases h2 : b = y
    · have H := Lib.hid (show decide (c < z) = dLt a b c x y z by unfold dLt; rw [decide_eq_decide]; omega)
      have e1 : (a == x) = true := by simpa using h1
      have e2 : (b == y) = true := by simpa using h2
      have e3 : (a != x) = false := by simpa using h1
      have e4 : (b != y) = false := by simpa using h2
      clear h1 h2
      go_enter Tryz.func39, Tryz.ntmps39
      go_wp2
      go_ret
      exact ⟨HS.out _ H.out, HB⟩
    · have H := Lib.hid (show decide (b < y) = dLt a b c x y z by unfold dLt; rw [decide_eq_decide]; omega)
      have e1 : (a == x) = true := by simpa using h1
      have e2 : (b == y) = false := by simpa using h2
      have e3 : (a != x) = false := by simpa using h1
      have e4 : (b != y) = true := by simpa using h2
      clear h1 h2
      go_enter Tryz.func39, Tryz.ntmps39
      go_wp2
      go_ret
      exact ⟨HS.out _ H.out, HB⟩
  · have H := Lib.hid (show decide (a < x) = dLt a b c x y z by unfold dLt; rw [decide_eq_decide]; omega)
    have e1 : (a == x) = false := by simpa using h1
    have e3 : (a != x) = true := by simpa using h1
    clear h1
    go_enter Tryz.func39, Tryz.ntmps39
    go_wp2
    go_ret
    exact ⟨HS.out _ H.out, HB⟩
set_option maxHeartbeats 400000 in
theorem rto5_c (y m d : Int) (w : World) : Calls Tryz.prog 67 #[.int .i64 2, .agg #[.int .i64 y, .int .i64 m, .int .i64 d]] w fun e w' => e = .returned (.tuple #[.int .i64 (vToN y m d), .int .i64 (vToE y m d)]) ∧ Below w.heap.size w w' := by
  have HB := (Below.refl w.heap.size w).alloc (Nat.le_refl _) (.cells #[.int .i64 y, .int .i64 m, .int .i64 d] 39)
  go_enter Tryz.func67, Tryz.ntmps67
  go_wp2_with ((go_at_call 14; with_reducible refine (rto_c _ _ _ _).mono ?_; rintro e w1 ⟨rfl, hw⟩; replace HB := below_then HB HB.size hw; clear hw))
  go_ret2
  exact ⟨rfl, HB⟩
set_option maxHeartbeats 400000 in
theorem rfrom5_c (n : Int) (w : World) (h : vDayOk n = true) : Calls Tryz.prog 40 #[.int .i64 2, .int .i64 n] w fun e w' => e = .returned (.tuple #[.agg #[.int .i64 (vYear n), .int .i64 (mMon n), .int .i64 (mDay n)], .int .i64 0]) ∧ Below w.heap.size w w' := by
  have HB := (Below.refl w.heap.size w).alloc (Nat.le_refl _) (.cells #[.int .i64 0, .int .i64 0, .int .i64 0] 39)
  have B0 := Lib.hid (Blk.new w #[.int .i64 0, .int .i64 0, .int .i64 0] 39)
  go_enter Tryz.func40, Tryz.ntmps40
  go_wp2_with ((go_at_call 66; with_reducible refine (rfrom_yes _ _ h).mono ?_; rintro e w1 ⟨rfl, hw⟩; replace B0 := Lib.hid (B0.out.below hw); replace HB := below_then HB HB.size hw; clear hw; obtain ⟨⟨a0, a1, a2⟩, a3, a4, a5⟩ := B0.out.c3; have blt := B0.out.lt))
  refine bodyPost_ret (results_ct rfl _ _ w.heap.size 39 #[.int .i64 (vYear n), .int .i64 (mMon n), .int .i64 (mDay n)] (0, 0) _ rfl (((B0.out.put 0 _ rfl).put 1 _ rfl).put 2 _ rfl) Tryz.underlying39 rfl (by kernel_rfl)) rfl ?_
  exact ⟨rfl, ((HB.setCell (Nat.le_refl _) _).setCell (Nat.le_refl _) _).setCell (Nat.le_refl _) _⟩
set_option maxHeartbeats 400000 in
theorem rexists_c (m d : Int) (w : World) : Calls Tryz.prog 44 #[.int .i64 m, .int .i64 d] w fun e w' => e = .returned (.bool (decide (1 ≤ d ∧ d ≤ vLen false m))) ∧ w = w' := by
  by_cases h : 1 ≤ d
  · have b1 : decide (1 ≤ d) = true := by simpa using h
    have H := Lib.hid (show decide (d ≤ vLen false m) = decide (1 ≤ d ∧ d ≤ vLen false m) by rw [decide_eq_decide]; omega)
    clear h
    go_enter Tryz.func44, Tryz.ntmps44
    go_wp2_with ((go_at_call 35; with_reducible refine (rlength_c _ _ _).mono ?_; rintro e w1 ⟨rfl, rfl⟩))
    go_ret
    exact ⟨ret_bool H.out, rfl⟩
  · have b1 : decide (1 ≤ d) = false := by simpa using h
    have H := Lib.hid (show false = decide (1 ≤ d ∧ d ≤ vLen false m) by rw [eq_comm, decide_eq_false_iff_not]; omega)
    clear h
    go_enter Tryz.func44, Tryz.ntmps44
    go_wp2_with ((go_at_call 35; with_reducible refine (rlength_c _ _ _).mono ?_; rintro e w1 ⟨rfl, rfl⟩))
    go_ret
    exact ⟨ret_bool H.out, rfl⟩
theorem lun_in {y : Int} (h1 : 1583 ≤ y) (h2 : y ≤ 1000000000) : 0 ≤ (8 * (y / 100 + 1) + 5) / 25 ∧ (8 * (y / 100 + 1) + 5) / 25 ≤ 10000000 ∧ 0 ≤ 3 * (y / 100 + 1) / 4 ∧ 3 * (y / 100 + 1) / 4 ≤ 10000000 ∧ 0 ≤ y % 19 ∧ y % 19 ≤ 18 := by omega
set_option maxHeartbeats 400000 in
theorem rep_c (y : Int) (w : World) (h1 : 1583 ≤ y) (h2 : y ≤ 1000000000) : Calls Tryz.prog 186 #[.int .i64 2, .int .i64 y] w fun e w' => e = .returned (.int .i64 (vEp y)) ∧ w = w' := by
  obtain ⟨a1, a2, a3, a4, a5, a6⟩ := lun_in h1 h2
  have HG := Lib.hid (show gEp y = 11 * (y % 19 + 1) + 20 + ((8 * (y / 100 + 1) + 5) / 25 - 5) - (3 * (y / 100 + 1) / 4 - 12) from rfl)
  have G1 : -100000000 ≤ gEp y ∧ gEp y ≤ 100000000 := by unfold gEp; omega
  obtain ⟨G2, G3⟩ := G1
  have HM := Lib.hid (fmod_e (gEp y) (b := 30) (by omega))
  by_cases hz : gEp y % 30 = 0
  · have e0 : (gEp y % 30 == 0) = true := by simpa using hz
    have H := Lib.hid (show 30 = vEp y by unfold vEp; omega)
    clear hz
    go_enter Tryz.func186, Tryz.ntmps186
    go_wp2_with (first | (go_at_call 187; with_reducible refine (rgolden_c _ _ (by omega) h2).mono ?_; rintro e w1 ⟨rfl, rfl⟩) | (go_at_call 212; with_reducible refine (rlunar_c _ _ h1 h2).mono ?_; rintro e w1 ⟨rfl, rfl⟩) | (go_at_call 213; with_reducible refine (rsolar_c _ _ h1 h2).mono ?_; rintro e w1 ⟨rfl, rfl⟩) | (go_at_call 42; rw [← HG.out]; with_reducible refine (rmod_c (gEp y) 30 _ (by omega) (by omega) (by omega) (by omega) (spl_pos _ (by omega))).mono ?_; rintro e w1 ⟨rfl, rfl⟩; rw [HM.out]))
    go_ret
    exact ⟨ret_int H.out, rfl⟩
  · have e0 : (gEp y % 30 == 0) = false := by simpa using hz
    have H := Lib.hid (show gEp y % 30 = vEp y by unfold vEp; omega)
    clear hz
    go_enter Tryz.func186, Tryz.ntmps186
    go_wp2_with (first | (go_at_call 187; with_reducible refine (rgolden_c _ _ (by omega) h2).mono ?_; rintro e w1 ⟨rfl, rfl⟩) | (go_at_call 212; with_reducible refine (rlunar_c _ _ h1 h2).mono ?_; rintro e w1 ⟨rfl, rfl⟩) | (go_at_call 213; with_reducible refine (rsolar_c _ _ h1 h2).mono ?_; rintro e w1 ⟨rfl, rfl⟩) | (go_at_call 42; rw [← HG.out]; with_reducible refine (rmod_c (gEp y) 30 _ (by omega) (by omega) (by omega) (by omega) (spl_pos _ (by omega))).mono ?_; rintro e w1 ⟨rfl, rfl⟩; rw [HM.out]))
    go_ret
    exact ⟨ret_int H.out, rfl⟩
set_option maxHeartbeats 400000 in
theorem rlabel_c (y : Int) (w : World) (h1 : 1583 ≤ y) (h2 : y ≤ 1000000000) : Calls Tryz.prog 144 #[.int .i64 2, .int .i64 y] w fun e w' => e = .returned (.int .i64 (vLab y)) ∧ w = w' := by
  by_cases a : vEp y = 25
  · have e0 : (vEp y == 25) = true := by simpa using a
    by_cases c : 11 < y % 19 + 1
    · have R := Lib.hid (show (31 : Int) = vLab y by unfold vLab; rw [if_pos ⟨a, c⟩])
      have c0 : decide (11 < y % 19 + 1) = true := by simpa using c
      clear a c
      go_enter Tryz.func144, Tryz.ntmps144
      go_wp2_with (first | (go_at_call 186; with_reducible refine (rep_c _ _ h1 h2).mono ?_; rintro e w1 ⟨rfl, rfl⟩) | (go_at_call 187; with_reducible refine (rgolden_c _ _ (by omega) h2).mono ?_; rintro e w1 ⟨rfl, rfl⟩))
      go_ret
      exact ⟨ret_int R.out, rfl⟩
    · have R := Lib.hid (show vEp y = vLab y by unfold vLab; rw [if_neg (fun h => c h.2)])
      have c0 : decide (11 < y % 19 + 1) = false := by simpa using c
      clear a c
      go_enter Tryz.func144, Tryz.ntmps144
      go_wp2_with (first | (go_at_call 186; with_reducible refine (rep_c _ _ h1 h2).mono ?_; rintro e w1 ⟨rfl, rfl⟩) | (go_at_call 187; with_reducible refine (rgolden_c _ _ (by omega) h2).mono ?_; rintro e w1 ⟨rfl, rfl⟩))
      go_ret
      exact ⟨ret_int R.out, rfl⟩
  · have R := Lib.hid (show vEp y = vLab y by unfold vLab; rw [if_neg (fun h => a h.1)])
    have e0 : (vEp y == 25) = false := by simpa using a
    clear a
    go_enter Tryz.func144, Tryz.ntmps144
    go_wp2_with (first | (go_at_call 186; with_reducible refine (rep_c _ _ h1 h2).mono ?_; rintro e w1 ⟨rfl, rfl⟩) | (go_at_call 187; with_reducible refine (rgolden_c _ _ (by omega) h2).mono ?_; rintro e w1 ⟨rfl, rfl⟩))
    go_ret
    exact ⟨ret_int R.out, rfl⟩
end Go.Proofs.YtdgaflcnigljlaaGreatDoor
