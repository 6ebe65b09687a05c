/-
  Contracts and plain facts for the laws on the whole program: the parts below say each what they are. No further condition.
-/
import Derived.Test.YtdgaflcnigljlaaGreatDoorS04
import Derived.Deep.LoopGhost
import Derived.StillTailTactics
/-
  Contracts of FromDay, of the program and of the reference, for all integers.
-/
namespace Go.Proofs.YtdgaflcnigljlaaGreatDoor
open Go.RowKit Go.Proofs.YtdgaflcnigljlaaGreatDoorW.PrintWords
set_option linter.unusedVariables false

theorem qadd {P : Program} {f : FuncId} {args : Array Value} {w : World} {a n : Nat} {v : Value}
    (h : Calls P f args (w.drewN (a + n)) fun e w' => e = .returned v ∧ w.drewN (a + n) = w') : Calls P f args (w.drewN (a + n)) fun e w'' => e = .returned v ∧ ∃ m, w'' = w.drewN (a + m) :=
  h.mono fun _ _ ⟨he, hm⟩ => ⟨he, n, hm.symm⟩
def yA : Value := .agg #[.int .i64 400, .int .i64 146097, .int .i64 4611686018427387904, .int .i64 100, .int .i64 36524, .int .i64 3, .int .i64 4, .int .i64 1461, .int .i64 24, .int .i64 1, .int .i64 365, .int .i64 3]
set_option maxHeartbeats 400000 in
theorem year_c (n : Int) (w : World) (h1 : 1 ≤ n) (h2 : n < 365242500001) : Calls Tryz.prog 136 #[.int .i64 n] w fun e w' => e = .returned (.int .i64 (vYear n)) ∧ Below w.heap.size w w' := by
  have i0 : ∀ w, (Instr.index 232 yA (.int .i64 0)).run Tryz.prog w = .ok (.agg #[.int .i64 400, .int .i64 146097, .int .i64 4611686018427387904]) w := fun _ => by kernel_rfl
  have i1 : ∀ w, (Instr.index 232 yA (.int .i64 1)).run Tryz.prog w = .ok (.agg #[.int .i64 100, .int .i64 36524, .int .i64 3]) w := fun _ => by kernel_rfl
  have i2 : ∀ w, (Instr.index 232 yA (.int .i64 2)).run Tryz.prog w = .ok (.agg #[.int .i64 4, .int .i64 1461, .int .i64 24]) w := fun _ => by kernel_rfl
  have i3 : ∀ w, (Instr.index 232 yA (.int .i64 3)).run Tryz.prog w = .ok (.agg #[.int .i64 1, .int .i64 365, .int .i64 3]) w := fun _ => by kernel_rfl
  obtain ⟨a1, a2, a3, a4, a5⟩ := y100_in n
  obtain ⟨b1, b2, b3, b4, b5⟩ := y4_in n
  obtain ⟨c1, c2, c3, c4, c5, c6⟩ := y1_in n
  have a0 := r400_in n
  have z1 : (n - 1) / 146097 = y400 n := rfl
  have z1' : 0 ≤ y400 n ∧ y400 n ≤ 2500000 := by unfold y400; omega
  have z2 : n - 1 - y400 n * 146097 = r400 n := rfl
  have z3 : min (r400 n / 36524) 3 = y100 n := rfl
  have z4 : r400 n - y100 n * 36524 = r100 n := rfl
  have z5 : min (r100 n / 1461) 24 = y4 n := rfl
  have z6 : r100 n - y4 n * 1461 = r4 n := rfl
  have z7 : min (r4 n / 365) 3 = y1 n := rfl
  have z8 : 1 + y400 n * 400 + y100 n * 100 + y4 n * 4 + y1 n = vYear n := rfl
  have HB := Below.refl w.heap.size w
  generalize y400 n = Y400 at *
  generalize r400 n = R400 at *
  generalize y100 n = Y100 at *
  generalize r100 n = R100 at *
  generalize y4 n = Y4 at *
  generalize r4 n = R4 at *
  generalize y1 n = Y1 at *
  generalize vYear n = Y at *
  have ZZ := Lib.hid (And.intro z1 (And.intro z2 (And.intro z3 (And.intro z4 (And.intro z5 (And.intro z6 (And.intro z7 z8)))))))
  clear z1 z2 z3 z4 z5 z6 z7 z8
  go_enter Tryz.func136, Tryz.ntmps136
  go_wp2_with fail
  rw [show Value.agg #[.int .i64 400, .int .i64 146097, .int .i64 4611686018427387904, .int .i64 100, .int .i64 36524, .int .i64 3, .int .i64 4, .int .i64 1461, .int .i64 24, .int .i64 1, .int .i64 365, .int .i64 3] = yA from rfl]
  go_loopw [16, 3, 4] (fun i r o wr => ((i = .int .i64 0 ∧ r = .int .i64 (n - 1) ∧ o = .int .i64 1) ∨ (i = .int .i64 1 ∧ r = .int .i64 R400 ∧ o = .int .i64 (1 + Y400 * 400)) ∨ (i = .int .i64 2 ∧ r = .int .i64 R100 ∧ o = .int .i64 (1 + Y400 * 400 + Y100 * 100)) ∨ (i = .int .i64 3 ∧ r = .int .i64 R4 ∧ o = .int .i64 (1 + Y400 * 400 + Y100 * 100 + Y4 * 4)) ∨ (i = .int .i64 4 ∧ o = .int .i64 Y)) ∧ Below w.heap.size w wr) (fun i _ _ _ => (4 - intOf i).toNat)
  case atStart => exact ⟨.inl ⟨rfl, rfl, rfl⟩, HB⟩
  case round =>
    obtain ⟨hc, HR⟩ := hrel
    clear HB
    rcases hc with ⟨rfl, rfl, rfl⟩ | ⟨rfl, rfl, rfl⟩ | ⟨rfl, rfl, rfl⟩ | ⟨rfl, rfl, rfl⟩ | ⟨rfl, rfl⟩
    · go_wp2_with (go_at_call 175; refine (div_c _ _ _ (by omega) (by omega) (by omega) (by omega)).mono ?_; rintro e w1 ⟨rfl, ⟨q, rfl⟩⟩; rw [vDiv_pos (by omega), ZZ.out.1])
      go_roundw
      case rel => exact ⟨.inr (.inl ⟨rfl, by rw [← ZZ.out.2.1], rfl⟩), below_drewN (HR.alloc HR.size _) _⟩
      case measure => simp [intOf]
    · go_wp2_with (go_at_call 175; refine (div_c _ _ _ (by omega) (by omega) (by omega) (by omega)).mono ?_; rintro e w1 ⟨rfl, ⟨q, rfl⟩⟩; rw [vDiv_pos (by omega)]; obtain ⟨D, hD⟩ : ∃ D, R400 / 36524 = D := ⟨_, rfl⟩; rw [hD]; have d0 : 0 ≤ D := (by omega); have d1 : D ≤ 4 := (by omega); have hm := Lib.hid (show min D 3 = _ from hD ▸ ZZ.out.2.2.1); clear hD)
      all_goals
        have hm2 := hm.out
        go_roundw
        case rel => exact ⟨.inr (.inr (.inl ⟨rfl, by rw [← ZZ.out.2.2.2.1]; go_num, by go_num⟩)), below_drewN (HR.alloc HR.size _) _⟩
        case measure => simp [intOf]
    · go_wp2_with (go_at_call 175; refine (div_c _ _ _ (by omega) (by omega) (by omega) (by omega)).mono ?_; rintro e w1 ⟨rfl, ⟨q, rfl⟩⟩; rw [vDiv_pos (by omega)]; obtain ⟨D, hD⟩ : ∃ D, R100 / 1461 = D := ⟨_, rfl⟩; rw [hD]; have d0 : 0 ≤ D := (by omega); have d1 : D ≤ 25 := (by omega); have hm := Lib.hid (show min D 24 = _ from hD ▸ ZZ.out.2.2.2.2.1); clear hD)
      all_goals
        have hm2 := hm.out
        go_roundw
        case rel => exact ⟨.inr (.inr (.inr (.inl ⟨rfl, by rw [← ZZ.out.2.2.2.2.2.1]; go_num, by go_num⟩))), below_drewN (HR.alloc HR.size _) _⟩
        case measure => simp [intOf]
    · go_wp2_with (go_at_call 175; refine (div_c _ _ _ (by omega) (by omega) (by omega) (by omega)).mono ?_; rintro e w1 ⟨rfl, ⟨q, rfl⟩⟩; rw [vDiv_pos (by omega)]; obtain ⟨D, hD⟩ : ∃ D, R4 / 365 = D := ⟨_, rfl⟩; rw [hD]; have d0 : 0 ≤ D := (by omega); have d1 : D ≤ 4 := (by omega); have hm := Lib.hid (show min D 3 = _ from hD ▸ ZZ.out.2.2.2.2.2.2.1); clear hD)
      all_goals
        have hm2 := hm.out
        go_roundw
        case rel => exact ⟨.inr (.inr (.inr (.inr ⟨rfl, by rw [← ZZ.out.2.2.2.2.2.2.2]; go_num⟩))), below_drewN (HR.alloc HR.size _) _⟩
        case measure => simp [intOf]
    · go_wp2_with fail
      go_ret
      exact ⟨rfl, HR⟩
set_option maxHeartbeats 400000 in
theorem from_no (n : Int) (w : World) (h : vDayOk n = false) : Calls Tryz.prog 97 #[.int .i64 n] w fun e w' => e = .returned (.tuple #[.agg #[.int .i64 0, .int .i64 0, .int .i64 0], .int .i64 1]) ∧ Below w.heap.size w w' := by
  have HB := (Below.refl w.heap.size w).alloc (Nat.le_refl _) (.cells #[.int .i64 0, .int .i64 0, .int .i64 0] 39)
  have h' : n < 1 ∨ 365242500001 ≤ n := by
    cases hh : decide (1 ≤ n ∧ n < 365242500001)
    · simp at hh; omega
    · unfold vDayOk at h; rw [hh] at h; cases h
  clear h
  rcases h' with h | h
  all_goals
    go_enter Tryz.func97, Tryz.ntmps97
    go_wp2_with (go_at_call 95; refine (first_c _ _ (by omega) (by omega)).mono ?_; rintro e w1 ⟨rfl, rfl⟩; first | rw [show vFirst 1 = 1 from by decide] | rw [vFirst_end])
    refine bodyPost_ret (v := .tuple #[.agg #[.int .i64 0, .int .i64 0, .int .i64 0], .int .i64 1]) (by simp [results, Tryz.results97, go_sem]) rfl ⟨rfl, ?_⟩
    first | exact HB | exact ((HB.setCell (Nat.le_refl _) _).setCell (Nat.le_refl _) _).setCell (Nat.le_refl _) _ | exact (((below_drewN HB _).setCell (Nat.le_refl _) _).setCell (Nat.le_refl _) _).setCell (Nat.le_refl _) _

/-- What the loop of FromDay keeps: the result's block and the date's block. -/
def DBox (w wr : World) (g : Nat) (y k d : Int) : Prop := Below w.heap.size w wr ∧ w.heap.size < g ∧ Blk wr w.heap.size #[.int .i64 0, .int .i64 0, .int .i64 0] 39 ∧ Blk wr g #[.int .i64 y, .int .i64 k, .int .i64 d] 39
theorem DBox.next {w wr : World} {g : Nat} {y k d : Int} (h : DBox w wr g y k d) (k' : Int) : DBox w (wr.setCell ⟨g, 1, none⟩ (.int .i64 k')) g y k' d :=
  ⟨h.1.setCell (Nat.le_of_lt h.2.1) _, h.2.1, h.2.2.1.far (by have := h.2.1; simp; omega) _, h.2.2.2.put 1 _ rfl⟩
theorem DBox.done {w wr : World} {g : Nat} {y k d : Int} (h : DBox w wr g y k d) (d' : Int) : DBox w (wr.setCell ⟨g, 2, none⟩ (.int .i64 d')) g y k d' :=
  ⟨h.1.setCell (Nat.le_of_lt h.2.1) _, h.2.1, h.2.2.1.far (by have := h.2.1; simp; omega) _, h.2.2.2.put 2 _ rfl⟩
set_option maxHeartbeats 400000 in
theorem from_yes (n : Int) (w : World) (h : vDayOk n = true) : Calls Tryz.prog 97 #[.int .i64 n] w fun e w' => e = .returned (.tuple #[.agg #[.int .i64 (vYear n), .int .i64 (mMon n), .int .i64 (mDay n)], .int .i64 0]) ∧ Below w.heap.size w w' := by
  have HB := (Below.refl w.heap.size w).alloc (Nat.le_refl _) (.cells #[.int .i64 0, .int .i64 0, .int .i64 0] 39)
  obtain ⟨n1, n2⟩ := vDayOk_iff.1 h
  clear h
  go_enter Tryz.func97, Tryz.ntmps97
  go_wp2_with fail
  refine (first_c _ _ (by omega) (by omega)).mono ?_; rintro e w1 ⟨rfl, rfl⟩; rw [show vFirst 1 = 1 from by decide]
  go_wp2_with fail
  refine (first_c _ _ (by omega) (by omega)).mono ?_; rintro e w1 ⟨rfl, rfl⟩; rw [vFirst_end]
  go_wp2_with fail
  refine (year_c _ _ n1 n2).mono ?_; rintro e w1 ⟨rfl, hw⟩
  have B0 : Blk w1 w.heap.size #[.int .i64 0, .int .i64 0, .int .i64 0] 39 := (Blk.new w _ 39).below hw
  replace HB := below_then HB (by simp) hw
  clear hw
  obtain ⟨y1, y2⟩ := vYear_in n1 n2
  obtain ⟨f1, f2⟩ := vFirst_bd y1 (by omega)
  obtain ⟨d1, d2⟩ := vDoy_in n
  obtain ⟨s1, s2, s3, s4⟩ := vMon_spec d1 d2
  have P := lp01 (vLeap (vYear n))
  have L := Lib.hid (fun k => vLen_le (vLeap (vYear n)) k)
  have C := Lib.hid (fun k => @vCum_le (vLeap (vYear n)) k)
  have S := Lib.hid (fun k => @vCum_succ (vLeap (vYear n)) k)
  have E := Lib.hid (vCum_end (vLeap (vYear n)))
  have D2 := Lib.hid d2
  have d3 : vDoy n ≤ 365 := by omega
  clear s1 s2 s3 s4 d2 P
  go_wp2_with fail
  have T0 : DBox w (w1.alloc (.cells #[.int .i64 (vYear n), .int .i64 1, .int .i64 0] 39)) w1.heap.size (vYear n) 1 0 := ⟨HB.alloc HB.size _, Nat.lt_of_lt_of_le B0.lt (Nat.le_refl _), B0.alloc _, Blk.new _ _ _⟩
  clear B0 HB
  refine (first_c _ _ (by omega) (by omega)).mono ?_; rintro e w2 ⟨rfl, rfl⟩
  generalize w1.alloc (.cells #[.int .i64 (vYear n), .int .i64 1, .int .i64 0] 39) = W at *
  generalize w1.heap.size = g at *
  go_wp2_with fail
  rw [show n - vFirst (vYear n) = vDoy n from rfl]
  go_loopg [5] 12 (fun q t wr => ∃ k : Int, 1 ≤ k ∧ k ≤ 12 ∧ t = .int .i64 (vDoy n - vCum (vLeap (vYear n)) k) ∧ Hid (DBox w wr g (vYear n) k 0) ∧ vCum (vLeap (vYear n)) k ≤ vDoy n ∧ (q : Int) = 13 - k)
  case atStart => exact ⟨1, by omega, by omega, by rw [vCum_one]; go_num, Lib.hid T0, by rw [vCum_one]; exact d1, by omega⟩
  case round =>
    clear T0
    obtain ⟨k, h1, h2, rfl, HT, h3, hg⟩ := hrel
    have b1 := L.out k
    have b2 := C.out k (by omega)
    have GK := Lib.hid hg
    clear hg
    obtain ⟨⟨a0, a1, a2⟩, z0, z1, z2⟩ := HT.out.2.2.2.c3
    by_cases hk : vLen (vLeap (vYear n)) k ≤ vDoy n - vCum (vLeap (vYear n)) k
    · have b3 := Lib.hid (S.out k (by omega) (by omega))
      have b4 : k < 12 := by
        have := b3.out
        by_cases e : k = 12
        · subst e; have := E.out; have := D2.out; simp only [Int.reduceAdd] at *; omega
        · omega
      go_wp2_with (go_at_call 137; refine (length_c _ _ _).mono ?_; rintro e w' ⟨rfl, rfl⟩)
      go_roundg (gk - 1)
      case measure => have := GK.out; omega
      case rel => exact ⟨k + 1, by omega, by omega, by rw [b3.out]; go_num, Lib.hid (HT.out.next (k + 1)), by rw [b3.out]; omega, by have := GK.out; omega⟩
    · have b3 := Lib.hid (S.out k (by omega) (by omega))
      have b4 := Lib.hid (vMon_uniq h1 h2 h3 (by rw [b3.out]; omega))
      have b5 : Hid (vDoy n - vCum (vLeap (vYear n)) k + 1 = mDay n) := Lib.hid (by unfold mDay mMon; rw [b4.out])
      have b6 : Hid (k = mMon n) := Lib.hid b4.out.symm
      obtain ⟨⟨e0, e1, e2⟩, x0, x1, x2⟩ := HT.out.2.2.1.c3
      have hgw : w.heap.size ≠ g := by have := HT.out.2.1; omega
      go_wp2_with (go_at_call 137; refine (length_c _ _ _).mono ?_; rintro e w' ⟨rfl, rfl⟩)
      rw [b5.out]
      have HF := HT.out.done (mDay n)
      refine bodyPost_ret (results_ct rfl _ _ w.heap.size 39 #[.int .i64 (vYear n), .int .i64 k, .int .i64 (mDay n)] (0, 0) _ rfl (((HF.2.2.1.put 0 _ rfl).put 1 _ rfl).put 2 _ rfl) Tryz.underlying39 rfl (by kernel_rfl)) rfl ⟨?_, ?_⟩
      · rw [← b6.out]; rfl
      · exact ((HF.1.setCell (Nat.le_refl _) _).setCell (Nat.le_refl _) _).setCell (Nat.le_refl _) _

set_option maxHeartbeats 400000 in
theorem rfrom_no (n : Int) (w : World) (h : vDayOk n = false) : Calls Tryz.prog 66 #[.int .i64 n] w fun e w' => e = .returned (.tuple #[.agg #[.int .i64 0, .int .i64 0, .int .i64 0], .int .i64 1]) ∧ Below w.heap.size w w' := by
  have HB := (Below.refl w.heap.size w).alloc (Nat.le_refl _) (.cells #[.int .i64 0, .int .i64 0, .int .i64 0] 39)
  have h' : n < 1 ∨ 365242500001 ≤ n := by
    cases hh : decide (1 ≤ n ∧ n < 365242500001)
    · simp at hh; omega
    · unfold vDayOk at h; rw [hh] at h; cases h
  clear h
  rcases h' with h | h
  all_goals
    go_enter Tryz.func66, Tryz.ntmps66
    go_wp2_with (go_at_call 11; refine (rfirst_c _ _ (by omega) (by omega)).mono ?_; rintro e w1 ⟨rfl, rfl⟩; rw [vFirst_end])
    refine bodyPost_ret (v := .tuple #[.agg #[.int .i64 0, .int .i64 0, .int .i64 0], .int .i64 1]) (by simp [results, Tryz.results66, go_sem]) rfl ⟨rfl, ?_⟩
    exact HB

/-- What the reference's second loop keeps: the result's block and the date's block behind it. -/
def TwoBox (w wr : World) (l k d : Int) : Prop := Below w.heap.size w wr ∧ w.heap.size + 1 < wr.heap.size ∧ (wr.cell? ⟨w.heap.size, 0, none⟩ = some (.int .i64 0) ∧ wr.cell? ⟨w.heap.size, 1, none⟩ = some (.int .i64 0) ∧ wr.cell? ⟨w.heap.size, 2, none⟩ = some (.int .i64 0)) ∧ (wr.frozen? ⟨w.heap.size, 0, none⟩ = false ∧ wr.frozen? ⟨w.heap.size, 1, none⟩ = false ∧ wr.frozen? ⟨w.heap.size, 2, none⟩ = false) ∧ (wr.cell? ⟨w.heap.size + 1, 0, none⟩ = some (.int .i64 l) ∧ wr.cell? ⟨w.heap.size + 1, 1, none⟩ = some (.int .i64 k) ∧ wr.cell? ⟨w.heap.size + 1, 2, none⟩ = some (.int .i64 d)) ∧ (wr.frozen? ⟨w.heap.size + 1, 0, none⟩ = false ∧ wr.frozen? ⟨w.heap.size + 1, 1, none⟩ = false ∧ wr.frozen? ⟨w.heap.size + 1, 2, none⟩ = false)
theorem TwoBox.start (w : World) (l k d : Int) : TwoBox w ((w.alloc (.cells #[.int .i64 0, .int .i64 0, .int .i64 0] 39)).alloc (.cells #[.int .i64 l, .int .i64 k, .int .i64 d] 39)) l k d := by
  refine ⟨((Below.refl _ _).alloc (Nat.le_refl _) _).alloc (by simp) _, by simp, ⟨?_, ?_, ?_⟩, ⟨?_, ?_, ?_⟩, ⟨?_, ?_, ?_⟩, ⟨?_, ?_, ?_⟩⟩
  all_goals simp [go_sem]
theorem TwoBox.drew {w wr : World} {l k d : Int} (h : TwoBox w wr l k d) (q : Nat) : TwoBox w (wr.drewN q).drew l k d := by
  obtain ⟨hb, hs, ⟨a0, a1, a2⟩, ⟨b0, b1, b2⟩, ⟨c0, c1, c2⟩, ⟨d0, d1, d2⟩⟩ := h
  exact ⟨(below_drewN hb _).drew, hs, ⟨a0, a1, a2⟩, ⟨b0, b1, b2⟩, ⟨c0, c1, c2⟩, ⟨d0, d1, d2⟩⟩
theorem TwoBox.next {w wr : World} {l k d : Int} (h : TwoBox w wr l k d) (d' k' : Int) : TwoBox w ((wr.setCell ⟨w.heap.size + 1, 2, none⟩ (.int .i64 d')).setCell ⟨w.heap.size + 1, 1, none⟩ (.int .i64 k')) l k' d' := by
  obtain ⟨hb, hs, ⟨a0, a1, a2⟩, ⟨b0, b1, b2⟩, ⟨c0, c1, c2⟩, ⟨d0, d1, d2⟩⟩ := h
  refine ⟨(hb.setCell (by simp) _).setCell (by simp) _, by simpa [go_sem] using hs, ⟨?_, ?_, ?_⟩, ⟨?_, ?_, ?_⟩, ⟨?_, ?_, ?_⟩, ⟨?_, ?_, ?_⟩⟩
  all_goals simp [go_sem, *]

set_option maxRecDepth 100000 in
set_option maxHeartbeats 1000000 in
theorem rfrom_yes (n : Int) (w : World) (h : vDayOk n = true) : Calls Tryz.prog 66 #[.int .i64 n] w fun e w' => e = .returned (.tuple #[.agg #[.int .i64 (vYear n), .int .i64 (mMon n), .int .i64 (mDay n)], .int .i64 0]) ∧ Below w.heap.size w w' := by
  have HB := (Below.refl w.heap.size w).alloc (Nat.le_refl _) (.cells #[.int .i64 0, .int .i64 0, .int .i64 0] 39)
  obtain ⟨n1, n2⟩ := vDayOk_iff.1 h
  clear h
  go_enter Tryz.func66, Tryz.ntmps66
  go_wp2_with fail
  refine (rfirst_c _ _ (by omega) (by omega)).mono ?_; rintro e w1 ⟨rfl, rfl⟩; rw [vFirst_end]
  go_wp2_with fail
  go_loop [4, 5, 6] (fun a b c => ∃ l h : Int, 1 ≤ l ∧ l ≤ h ∧ h ≤ 1000000000 ∧ a = .int .i64 l ∧ b = .int .i64 h ∧ vFirst l ≤ n ∧ n < vFirst (h + 1)) (fun a b _ => (intOf b - intOf a).toNat)
  case atStart => exact ⟨1, 1000000000, by omega, by omega, by omega, rfl, rfl, by rw [show vFirst 1 = 1 from by decide]; exact n1, by rw [show (1000000000 : Int) + 1 = 1000000001 from rfl, vFirst_end]; exact n2⟩
  case round =>
    obtain ⟨l, h, l1, l2, l3, rfl, rfl, F1, F2⟩ := hrel
    have G1 := Lib.hid F1
    have G2 := Lib.hid F2
    clear F1 F2
    by_cases hlh : l < h
    · have m1 : l < (l + h + 1) / 2 := by omega
      have m2 : (l + h + 1) / 2 ≤ h := by omega
      go_wp2_with fail
      generalize (l + h + 1) / 2 = m at *
      obtain ⟨g1, g2⟩ := vFirst_bd (y := m) (by omega) (by omega)
      refine (rfirst_c _ _ (by omega) (by omega)).mono ?_; rintro e w1 ⟨rfl, rfl⟩
      by_cases hm : vFirst m ≤ n
      · go_wp2_with fail
        go_round
        case rel => exact ⟨m, h, by omega, by omega, by omega, rfl, rfl, hm, G2.out⟩
        case measure => simp [intOf]; omega
      · go_wp2_with fail
        go_round
        case rel => exact ⟨l, m - 1, by omega, by omega, by omega, rfl, rfl, G1.out, by rw [show m - 1 + 1 = m by omega]; omega⟩
        case measure => simp [intOf]; omega
    · obtain rfl : l = h := by omega
      have i1 : -9223372036854775808 ≤ l := by omega
      have i2 : l ≤ 9223372036854775807 := by omega
      have HY := Lib.hid (vYear_uniq G1.out G2.out)
      obtain ⟨f1, f2⟩ := vFirst_bd (y := l) (by omega) (by omega)
      have d1 : 0 ≤ vDoy n ∧ vDoy n < 365 + lp (vLeap l) := by have := vDoy_in n; rw [HY.out] at this; exact this
      have HD := Lib.hid (show vDoy n = n - vFirst l by unfold vDoy; rw [HY.out])
      obtain ⟨d1, d2⟩ := d1
      have P := lp01 (vLeap l)
      have L := Lib.hid (fun k => vLen_le (vLeap l) k)
      have C := Lib.hid (fun k => @vCum_le (vLeap l) k)
      have S := Lib.hid (fun k => @vCum_succ (vLeap l) k)
      have E := Lib.hid (vCum_end (vLeap l))
      have D2 := Lib.hid d2
      have d3 : vDoy n ≤ 365 := by omega
      clear d2 P
      go_wp2_with fail
      refine (rfirst_c _ _ (by omega) (by omega)).mono ?_; rintro e w1 ⟨rfl, rfl⟩
      go_wp2_with fail
      rw [show n - vFirst l = vDoy n from HD.out.symm]
      have T0 := TwoBox.start w l 1 (vDoy n + 1)
      generalize hW : (w.alloc (.cells #[.int .i64 0, .int .i64 0, .int .i64 0] 39)).alloc (.cells #[.int .i64 l, .int .i64 1, .int .i64 (vDoy n + 1)] 39) = W at *
      clear hW
      go_loopg [] 12 (fun g wr => ∃ (k : Int), 1 ≤ k ∧ k ≤ 12 ∧ TwoBox w wr l k (vDoy n - vCum (vLeap l) k + 1) ∧ vCum (vLeap l) k ≤ vDoy n ∧ (g : Int) = 13 - k)
      case atStart => exact ⟨1, by omega, by omega, by rw [vCum_one, Int.sub_zero]; exact T0, by rw [vCum_one]; exact d1, by omega⟩
      case round =>
        clear T0 HB
        obtain ⟨k, h1, h2, T, h3, hg⟩ := hrel
        have b1 := L.out k
        have b2 := C.out k (by omega)
        have GK := Lib.hid hg
        have HT := Lib.hid T
        obtain ⟨hb, hs, ⟨a0, a1, a2⟩, ⟨b0, b01, b02⟩, ⟨c0, c1, c2⟩, ⟨e0, e1, e2⟩⟩ := T
        have HBB := Lib.hid hb
        clear hg hb
        by_cases hk : vLen (vLeap l) k < vDoy n - vCum (vLeap l) k + 1
        · have b3 := Lib.hid (S.out k (by omega) (by omega))
          have b4 : k < 12 := by
            have := b3.out
            by_cases e : k = 12
            · subst e; have := E.out; have := D2.out; simp only [Int.reduceAdd] at *; omega
            · omega
          go_wp2_with fail
          go_quiet (first | (go_at_call 19; exact Calls.quiet_of_same (flip (rleap_c _ _ i1 i2))) | (go_at_call 35; exact Calls.quiet_of_same (flip (rlength_c _ _ _))))
          go_wp2_with fail
          obtain ⟨w2, hw2, T2⟩ : ∃ w2, w2 = (wr.drewN nq).drew ∧ TwoBox w w2 l k (vDoy n - vCum (vLeap l) k + 1) := ⟨_, rfl, HT.out.drew nq⟩
          refine wp_region_still_tail 9 (by kernel_rfl) (by kernel_rfl) ?_
          show wpStill Tryz.prog _ ((wr.drewN nq).drew) (fun a' => wpList Tryz.prog _ _ _ a' ((wr.drewN nq).drew)) _ _
          rw [← hw2]
          have HT2 := Lib.hid T2
          obtain ⟨hb, hs', ⟨a0', a1', a2'⟩, ⟨b0', b01', b02'⟩, ⟨c0', c1', c2'⟩, ⟨e0', e1', e2'⟩⟩ := T2
          clear hb hw2 hs a0 a1 a2 b0 b01 b02 c0 c1 c2 e0 e1 e2
          simp only [List.take_succ_cons, List.take_zero, List.drop_succ_cons, List.drop_zero]
          repeat still_step
          still_call (flip (rleap_c _ _ i1 i2))
          repeat still_step
          still_call (flip (rlength_c _ _ _))
          repeat still_step
          refine wpStill_nil ?_
          go_wp2_with fail
          go_roundg (gk - 1)
          case measure => have := GK.out; omega
          case rel => exact ⟨k + 1, by omega, by omega, by rw [show vDoy n - vCum (vLeap l) (k + 1) + 1 = vDoy n - vCum (vLeap l) k + 1 - vLen (vLeap l) k by rw [b3.out]; omega]; exact HT2.out.next _ _, by rw [b3.out]; omega, by have := GK.out; omega⟩
        · have b3 := Lib.hid (S.out k (by omega) (by omega))
          have b4 := Lib.hid (vMon_uniq h1 h2 h3 (by rw [b3.out]; omega))
          have e1 : mMon n = k := by unfold mMon; rw [HY.out]; exact b4.out
          have e2 : mDay n = vDoy n - vCum (vLeap l) k + 1 := by unfold mDay; rw [e1, HY.out]
          have M1 := Lib.hid e1
          have M2 := Lib.hid e2
          clear e1 e2
          go_wp2_with fail
          go_quiet (first | (go_at_call 19; exact Calls.quiet_of_same (flip (rleap_c _ _ i1 i2))) | (go_at_call 35; exact Calls.quiet_of_same (flip (rlength_c _ _ _))))
          go_wp2_with fail
          refine bodyPost_ret (v := .tuple #[.agg #[.int .i64 l, .int .i64 k, .int .i64 (vDoy n - vCum (vLeap l) k + 1)], .int .i64 0]) (by simp [results, Tryz.results66, go_sem, *]) rfl ⟨?_, ?_⟩
          · rw [HY.out, M1.out, M2.out]
          · exact (((below_drewN HBB.out _).setCell (Nat.le_refl _) _).setCell (Nat.le_refl _) _).setCell (Nat.le_refl _) _
end Go.Proofs.YtdgaflcnigljlaaGreatDoor
