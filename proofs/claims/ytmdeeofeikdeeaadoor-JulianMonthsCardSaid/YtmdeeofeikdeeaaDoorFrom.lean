/-
  Contracts of FromDay, of the program and of the reference, for all integers, wherever the table of lengths lies in memory as the program text lays it.
-/
import Derived.Test.YtmdeeofeikdeeaaDoorTo
import Derived.Deep.LoopGhost
import Derived.StillTailTactics
namespace Go.Proofs.YtmdeeofeikdeeaaDoor
open Go.RowKit
set_option linter.unusedVariables false

theorem qadd {P : Program} {f : FuncId} {args : Array Value} {w : World} {a n : Nat} {v : Value}
    (h : Calls P f args (w.drewN (a + n)) fun e w' => e = .returned v ∧ w.drewN (a + n) = w') : Calls P f args (w.drewN (a + n)) fun e w'' => e = .returned v ∧ ∃ m, w'' = w.drewN (a + m) :=
  h.mono fun _ _ ⟨he, hm⟩ => ⟨he, n, hm.symm⟩
set_option maxHeartbeats 400000 in
theorem from_no (n : Int) (w : World) (h : vDayOk n = false) : Calls Tryd.prog 12 #[.int .i64 n] w fun e w' => e = .returned (.tuple #[.agg #[.int .i64 0, .int .i64 0, .int .i64 0], .int .i64 1]) ∧ Below w.heap.size w w' := by
  have HB := (Below.refl w.heap.size w).alloc (Nat.le_refl _) (.cells #[.int .i64 0, .int .i64 0, .int .i64 0] 23)
  have h' : n < -1 ∨ 365249999999 ≤ n := by
    cases hh : decide (-1 ≤ n ∧ n < 365249999999)
    · simp at hh; omega
    · unfold vDayOk at h; rw [hh] at h; cases h
  clear h
  rcases h' with h | h
  all_goals
    go_enter Tryd.func12, Tryd.ntmps12
    go_wp2_with (go_at_call 26; refine (first_c _ _ (by omega) (by omega)).mono ?_; rintro e w1 ⟨rfl, ⟨q, rfl⟩⟩; first | rw [show vFirst 1 = -1 from by decide] | rw [vFirst_end])
    refine bodyPost_ret (v := .tuple #[.agg #[.int .i64 0, .int .i64 0, .int .i64 0], .int .i64 1]) (by simp [results, Tryd.results12, go_sem]) rfl ⟨rfl, ?_⟩
    exact (((below_drewN HB _).setCell (Nat.le_refl _) _).setCell (Nat.le_refl _) _).setCell (Nat.le_refl _) _

set_option maxHeartbeats 400000 in
theorem from_yes (n : Int) (w : World) (hn : Hid (LensIn w)) (h : vDayOk n = true) : Calls Tryd.prog 12 #[.int .i64 n] w fun e w' => e = .returned (.tuple #[.agg #[.int .i64 (vYear n), .int .i64 (mMon n), .int .i64 (mDay n)], .int .i64 0]) ∧ Below w.heap.size w w' := by
  have HB := (Below.refl w.heap.size w).alloc (Nat.le_refl _) (.cells #[.int .i64 0, .int .i64 0, .int .i64 0] 23)
  obtain ⟨n1, n2⟩ := vDayOk_iff.1 h
  clear h
  have q1 : 0 ≤ (n + 1) / 1461 := by omega
  have q2 : (n + 1) / 1461 ≤ 250000000 := by omega
  have r1 : 0 ≤ (n + 1) % 1461 := by omega
  have r2 : (n + 1) % 1461 ≤ 1460 := by omega
  go_enter Tryd.func12, Tryd.ntmps12
  go_wp2_with fail
  refine (first_c _ _ (by omega) (by omega)).mono ?_; rintro e w1 ⟨rfl, ⟨k1, rfl⟩⟩; rw [show vFirst 1 = -1 from by decide]
  go_wp2_with fail
  refine (first_c _ _ (by omega) (by omega)).mono ?_; rintro e w1 ⟨rfl, ⟨k2, rfl⟩⟩; rw [vFirst_end]
  go_wp2_with fail
  refine (div_c _ _ _ (by omega) (by omega) (by omega) (by omega)).mono ?_; rintro e w1 ⟨rfl, ⟨k3, rfl⟩⟩; rw [vDiv_pos (by omega)]
  go_wp2_with fail
  refine (mod_c _ _ _ (by omega) (by omega) (by omega) (by omega)).mono ?_; rintro e w1 ⟨rfl, ⟨k4, rfl⟩⟩; rw [vMod_pos (by omega)]
  go_wp2_with fail
  all_goals first | rw [show 4 * ((n + 1) / 1461) + 3 + 1 = vYear n from by unfold vYear; omega] | rw [show 4 * ((n + 1) / 1461) + (n + 1) % 1461 / 365 + 1 = vYear n from by unfold vYear; omega]
  all_goals
    clear q1 q2 r1 r2
    obtain ⟨y1, y2⟩ := vYear_in n1 n2
    obtain ⟨f1, f2⟩ := vFirst_bd y1 (by omega)
    obtain ⟨d1, d2⟩ := vDoy_in n
    obtain ⟨s1, s2, s3, s4⟩ := vMon_spec d1 d2
    have P := lp01 (vLeap (vYear n))
    have HD := Lib.hid (show vDoy n = n - vFirst (vYear n) from rfl)
    have L := Lib.hid (fun k => vLen_le (vLeap (vYear n)) k)
    have C := Lib.hid (fun k => @vCum_le (vLeap (vYear n)) k)
    have S := Lib.hid (fun k => @vCum_succ (vLeap (vYear n)) k)
    have E := Lib.hid (vCum_end (vLeap (vYear n)))
    have D2 := Lib.hid d2
    have d3 : vDoy n ≤ 365 := by omega
    clear s1 s2 s3 s4 d2 P
    refine (first_c _ _ (by omega) (by omega)).mono ?_; rintro e w1 ⟨rfl, ⟨k5, rfl⟩⟩
    go_wp2_with fail
    rw [show n - vFirst (vYear n) = vDoy n from rfl]
    go_loop [9, 10] (fun t i => ∃ k : Int, 1 ≤ k ∧ k ≤ 12 ∧ i = .int .i64 k ∧ t = .int .i64 (vDoy n - vCum (vLeap (vYear n)) k) ∧ vCum (vLeap (vYear n)) k ≤ vDoy n) (fun _ i => (12 - intOf i).toNat)
    case atStart => exact ⟨1, by omega, by omega, rfl, by rw [vCum_one]; go_num, by rw [vCum_one]; exact d1⟩
    case round =>
      obtain ⟨k, h1, h2, rfl, rfl, h3⟩ := hrel
      have b1 := L.out k
      have b2 := C.out k (by omega)
      by_cases hk : vLen (vLeap (vYear n)) k ≤ vDoy n - vCum (vLeap (vYear n)) k
      · have b3 := Lib.hid (S.out k (by omega) (by omega))
        have b4 : k < 12 := by
          have := b3.out
          by_cases e : k = 12
          · subst e; have := E.out; have := D2.out; simp only [Int.reduceAdd] at *; omega
          · omega
        go_wp2_with (go_at_call 19; refine (length_c _ _ _ (Lib.hid (hn.out.below (by exact below_drewN HB _)))).mono ?_; rintro e w' ⟨rfl, rfl⟩)
        go_round
        case rel => exact ⟨k + 1, by omega, by omega, rfl, by rw [b3.out]; go_num, by rw [b3.out]; omega⟩
        case measure => simp [intOf]; omega
      · have b3 := Lib.hid (S.out k (by omega) (by omega))
        have b4 := Lib.hid (vMon_uniq h1 h2 h3 (by rw [b3.out]; omega))
        go_wp2_with (go_at_call 19; refine (length_c _ _ _ (Lib.hid (hn.out.below (by exact below_drewN HB _)))).mono ?_; rintro e w' ⟨rfl, rfl⟩)
        refine bodyPost_ret (v := .tuple #[.agg #[.int .i64 (vYear n), .int .i64 k, .int .i64 (vDoy n - vCum (vLeap (vYear n)) k + 1)], .int .i64 0]) (by simp [results, Tryd.results12, go_sem]) rfl ⟨?_, ?_⟩
        · have e1 : mMon n = k := b4.out
          have e2 : mDay n = vDoy n - vCum (vLeap (vYear n)) k + 1 := by unfold mDay; rw [e1]
          rw [e1, e2]
        · exact (((below_drewN HB _).setCell (Nat.le_refl _) _).setCell (Nat.le_refl _) _).setCell (Nat.le_refl _) _

set_option maxHeartbeats 400000 in
theorem rfrom_no (n : Int) (w : World) (h : vDayOk n = false) : Calls Tryd.prog 13 #[.int .i64 n] w fun e w' => e = .returned (.tuple #[.agg #[.int .i64 0, .int .i64 0, .int .i64 0], .int .i64 1]) ∧ Below w.heap.size w w' := by
  have HB := (Below.refl w.heap.size w).alloc (Nat.le_refl _) (.cells #[.int .i64 0, .int .i64 0, .int .i64 0] 23)
  have h' : n < -1 ∨ 365249999999 ≤ n := by
    cases hh : decide (-1 ≤ n ∧ n < 365249999999)
    · simp at hh; omega
    · unfold vDayOk at h; rw [hh] at h; cases h
  clear h
  rcases h' with h | h
  all_goals
    go_enter Tryd.func13, Tryd.ntmps13
    go_wp2_with (go_at_call 16; refine (rfirst_c _ _ (by omega) (by omega)).mono ?_; rintro e w1 ⟨rfl, rfl⟩; rw [vFirst_end])
    refine bodyPost_ret (v := .tuple #[.agg #[.int .i64 0, .int .i64 0, .int .i64 0], .int .i64 1]) (by simp [results, Tryd.results13, go_sem]) rfl ⟨rfl, ?_⟩
    exact HB

/-- What the reference's second loop keeps: the result's block and the date's block behind it. -/
def TwoBox (w wr : World) (l k d : Int) : Prop := Below w.heap.size w wr ∧ w.heap.size + 1 < wr.heap.size ∧ (wr.cell? ⟨w.heap.size, 0, none⟩ = some (.int .i64 0) ∧ wr.cell? ⟨w.heap.size, 1, none⟩ = some (.int .i64 0) ∧ wr.cell? ⟨w.heap.size, 2, none⟩ = some (.int .i64 0)) ∧ (wr.frozen? ⟨w.heap.size, 0, none⟩ = false ∧ wr.frozen? ⟨w.heap.size, 1, none⟩ = false ∧ wr.frozen? ⟨w.heap.size, 2, none⟩ = false) ∧ (wr.cell? ⟨w.heap.size + 1, 0, none⟩ = some (.int .i64 l) ∧ wr.cell? ⟨w.heap.size + 1, 1, none⟩ = some (.int .i64 k) ∧ wr.cell? ⟨w.heap.size + 1, 2, none⟩ = some (.int .i64 d)) ∧ (wr.frozen? ⟨w.heap.size + 1, 0, none⟩ = false ∧ wr.frozen? ⟨w.heap.size + 1, 1, none⟩ = false ∧ wr.frozen? ⟨w.heap.size + 1, 2, none⟩ = false)
theorem TwoBox.start (w : World) (l k d : Int) : TwoBox w ((w.alloc (.cells #[.int .i64 0, .int .i64 0, .int .i64 0] 23)).alloc (.cells #[.int .i64 l, .int .i64 k, .int .i64 d] 23)) l k d := by
  refine ⟨((Below.refl _ _).alloc (Nat.le_refl _) _).alloc (by simp) _, by simp, ⟨?_, ?_, ?_⟩, ⟨?_, ?_, ?_⟩, ⟨?_, ?_, ?_⟩, ⟨?_, ?_, ?_⟩⟩
  all_goals simp [go_sem]
theorem TwoBox.drew {w wr : World} {l k d : Int} (h : TwoBox w wr l k d) (q : Nat) : TwoBox w (wr.drewN q).drew l k d := by
  obtain ⟨hb, hs, ⟨a0, a1, a2⟩, ⟨b0, b1, b2⟩, ⟨c0, c1, c2⟩, ⟨d0, d1, d2⟩⟩ := h
  exact ⟨(below_drewN hb _).drew, hs, ⟨a0, a1, a2⟩, ⟨b0, b1, b2⟩, ⟨c0, c1, c2⟩, ⟨d0, d1, d2⟩⟩
theorem TwoBox.next {w wr : World} {l k d : Int} (h : TwoBox w wr l k d) (d' k' : Int) : TwoBox w ((wr.setCell ⟨w.heap.size + 1, 2, none⟩ (.int .i64 d')).setCell ⟨w.heap.size + 1, 1, none⟩ (.int .i64 k')) l k' d' := by
  obtain ⟨hb, hs, ⟨a0, a1, a2⟩, ⟨b0, b1, b2⟩, ⟨c0, c1, c2⟩, ⟨d0, d1, d2⟩⟩ := h
  refine ⟨(hb.setCell (by simp) _).setCell (by simp) _, by simpa [go_sem] using hs, ⟨?_, ?_, ?_⟩, ⟨?_, ?_, ?_⟩, ⟨?_, ?_, ?_⟩, ⟨?_, ?_, ?_⟩⟩
  all_goals simp [go_sem, *]

set_option maxHeartbeats 400000 in
theorem rfrom_yes (n : Int) (w : World) (h : vDayOk n = true) : Calls Tryd.prog 13 #[.int .i64 n] w fun e w' => e = .returned (.tuple #[.agg #[.int .i64 (vYear n), .int .i64 (mMon n), .int .i64 (mDay n)], .int .i64 0]) ∧ Below w.heap.size w w' := by
  have HB := (Below.refl w.heap.size w).alloc (Nat.le_refl _) (.cells #[.int .i64 0, .int .i64 0, .int .i64 0] 23)
  obtain ⟨n1, n2⟩ := vDayOk_iff.1 h
  clear h
  go_enter Tryd.func13, Tryd.ntmps13
  go_wp2_with fail
  refine (rfirst_c _ _ (by omega) (by omega)).mono ?_; rintro e w1 ⟨rfl, rfl⟩; rw [vFirst_end]
  go_wp2_with fail
  go_loop [4, 5, 6] (fun a b c => ∃ l h : Int, 1 ≤ l ∧ l ≤ h ∧ h ≤ 1000000000 ∧ a = .int .i64 l ∧ b = .int .i64 h ∧ vFirst l ≤ n ∧ n < vFirst (h + 1)) (fun a b _ => (intOf b - intOf a).toNat)
  case atStart => exact ⟨1, 1000000000, by omega, by omega, by omega, rfl, rfl, by rw [show vFirst 1 = -1 from by decide]; exact n1, by rw [show (1000000000 : Int) + 1 = 1000000001 from rfl, vFirst_end]; exact n2⟩
  case round =>
    obtain ⟨l, h, l1, l2, l3, rfl, rfl, F1, F2⟩ := hrel
    have G1 := Lib.hid F1
    have G2 := Lib.hid F2
    clear F1 F2
    by_cases hlh : l < h
    · have m1 : l < (l + h + 1) / 2 := by omega
      have m2 : (l + h + 1) / 2 ≤ h := by omega
      go_wp2_with fail
      generalize (l + h + 1) / 2 = m at *
      obtain ⟨g1, g2⟩ := vFirst_bd (y := m) (by omega) (by omega)
      refine (rfirst_c _ _ (by omega) (by omega)).mono ?_; rintro e w1 ⟨rfl, rfl⟩
      by_cases hm : vFirst m ≤ n
      · go_wp2_with fail
        go_round
        case rel => exact ⟨m, h, by omega, by omega, by omega, rfl, rfl, hm, G2.out⟩
        case measure => simp [intOf]; omega
      · go_wp2_with fail
        go_round
        case rel => exact ⟨l, m - 1, by omega, by omega, by omega, rfl, rfl, G1.out, by rw [show m - 1 + 1 = m by omega]; omega⟩
        case measure => simp [intOf]; omega
    · obtain rfl : l = h := by omega
      have HY := Lib.hid (vYear_uniq G1.out G2.out)
      obtain ⟨f1, f2⟩ := vFirst_bd (y := l) (by omega) (by omega)
      have d1 : 0 ≤ vDoy n ∧ vDoy n < 365 + lp (vLeap l) := by have := vDoy_in n; rw [HY.out] at this; exact this
      have HD := Lib.hid (show vDoy n = n - vFirst l by unfold vDoy; rw [HY.out])
      obtain ⟨d1, d2⟩ := d1
      have P := lp01 (vLeap l)
      have L := Lib.hid (fun k => vLen_le (vLeap l) k)
      have C := Lib.hid (fun k => @vCum_le (vLeap l) k)
      have S := Lib.hid (fun k => @vCum_succ (vLeap l) k)
      have E := Lib.hid (vCum_end (vLeap l))
      have D2 := Lib.hid d2
      have d3 : vDoy n ≤ 365 := by omega
      clear d2 P
      go_wp2_with fail
      refine (rfirst_c _ _ (by omega) (by omega)).mono ?_; rintro e w1 ⟨rfl, rfl⟩
      go_wp2_with fail
      rw [show n - vFirst l = vDoy n from HD.out.symm]
      have T0 := TwoBox.start w l 1 (vDoy n + 1)
      generalize hW : (w.alloc (.cells #[.int .i64 0, .int .i64 0, .int .i64 0] 23)).alloc (.cells #[.int .i64 l, .int .i64 1, .int .i64 (vDoy n + 1)] 23) = W at *
      clear hW
      go_loopg [] 12 (fun g wr => ∃ (k : Int), 1 ≤ k ∧ k ≤ 12 ∧ TwoBox w wr l k (vDoy n - vCum (vLeap l) k + 1) ∧ vCum (vLeap l) k ≤ vDoy n ∧ (g : Int) = 13 - k)
      case atStart => exact ⟨1, by omega, by omega, by rw [vCum_one, Int.sub_zero]; exact T0, by rw [vCum_one]; exact d1, by omega⟩
      case round =>
        clear T0 HB
        obtain ⟨k, h1, h2, T, h3, hg⟩ := hrel
        have b1 := L.out k
        have b2 := C.out k (by omega)
        have GK := Lib.hid hg
        have HT := Lib.hid T
        obtain ⟨hb, hs, ⟨a0, a1, a2⟩, ⟨b0, b01, b02⟩, ⟨c0, c1, c2⟩, ⟨e0, e1, e2⟩⟩ := T
        have HBB := Lib.hid hb
        clear hg hb
        by_cases hk : vLen (vLeap l) k < vDoy n - vCum (vLeap l) k + 1
        · have b3 := Lib.hid (S.out k (by omega) (by omega))
          have b4 : k < 12 := by
            have := b3.out
            by_cases e : k = 12
            · subst e; have := E.out; have := D2.out; simp only [Int.reduceAdd] at *; omega
            · omega
          go_wp2_with fail
          go_quiet (first | (go_at_call 18; exact Calls.quiet_of_same (flip (rleap_c _ _ (by omega) (by omega)))) | (go_at_call 20; exact Calls.quiet_of_same (flip (rlength_c _ _ _))))
          go_wp2_with fail
          obtain ⟨w2, hw2, T2⟩ : ∃ w2, w2 = (wr.drewN nq).drew ∧ TwoBox w w2 l k (vDoy n - vCum (vLeap l) k + 1) := ⟨_, rfl, HT.out.drew nq⟩
          refine wp_region_still_tail 9 (by kernel_rfl) (by kernel_rfl) ?_
          show wpStill Tryd.prog _ ((wr.drewN nq).drew) (fun a' => wpList Tryd.prog _ _ _ a' ((wr.drewN nq).drew)) _ _
          rw [← hw2]
          have HT2 := Lib.hid T2
          obtain ⟨hb, hs', ⟨a0', a1', a2'⟩, ⟨b0', b01', b02'⟩, ⟨c0', c1', c2'⟩, ⟨e0', e1', e2'⟩⟩ := T2
          clear hb hw2 hs a0 a1 a2 b0 b01 b02 c0 c1 c2 e0 e1 e2
          simp only [List.take_succ_cons, List.take_zero, List.drop_succ_cons, List.drop_zero]
          repeat still_step
          still_call (flip (rleap_c _ _ (by omega) (by omega)))
          repeat still_step
          still_call (flip (rlength_c _ _ _))
          repeat still_step
          refine wpStill_nil ?_
          go_wp2_with fail
          go_roundg (gk - 1)
          case measure => have := GK.out; omega
          case rel => exact ⟨k + 1, by omega, by omega, by rw [show vDoy n - vCum (vLeap l) (k + 1) + 1 = vDoy n - vCum (vLeap l) k + 1 - vLen (vLeap l) k by rw [b3.out]; omega]; exact HT2.out.next _ _, by rw [b3.out]; omega, by have := GK.out; omega⟩
        · have b3 := Lib.hid (S.out k (by omega) (by omega))
          have b4 := Lib.hid (vMon_uniq h1 h2 h3 (by rw [b3.out]; omega))
          have e1 : mMon n = k := by unfold mMon; rw [HY.out]; exact b4.out
          have e2 : mDay n = vDoy n - vCum (vLeap l) k + 1 := by unfold mDay; rw [e1, HY.out]
          have M1 := Lib.hid e1
          have M2 := Lib.hid e2
          clear e1 e2
          go_wp2_with fail
          go_quiet (first | (go_at_call 18; exact Calls.quiet_of_same (flip (rleap_c _ _ (by omega) (by omega)))) | (go_at_call 20; exact Calls.quiet_of_same (flip (rlength_c _ _ _))))
          go_wp2_with fail
          refine bodyPost_ret (v := .tuple #[.agg #[.int .i64 l, .int .i64 k, .int .i64 (vDoy n - vCum (vLeap l) k + 1)], .int .i64 0]) (by simp [results, Tryd.results13, go_sem, *]) rfl ⟨?_, ?_⟩
          · rw [HY.out, M1.out, M2.out]
          · exact (((below_drewN HBB.out _).setCell (Nat.le_refl _) _).setCell (Nat.le_refl _) _).setCell (Nat.le_refl _) _
end Go.Proofs.YtmdeeofeikdeeaaDoor
