/-
  Contracts and plain facts for the laws on the whole program: the parts below say each what they are. No further condition.
-/
import Derived.Test.YtdgaflcnigljlaaGreatDoorS16
import Derived.Deep.Cut
import Derived.Deep.CutRange
import Derived.Deep.DeepCutAuto
set_option linter.unusedSimpArgs false
/-
  Contracts of package sort at rows of candidates, through its interface: merging in place, whatever the parts. No further condition.
-/
namespace Go.Proofs.YtdgaflcnigljlaaGreatDoor
open Go.RowKit Go.Proofs Go.Proofs.YtdgaflcnigljlaaGreatDoorW.PrintWords
set_option linter.unusedVariables false
/-- Within the search. -/
structure SI (l : List Cand) (nn st0 r0 s r : Nat) : Prop where
  lo : st0 < s → Prec (F l (s - 1)) (F l (nn - s))
  hi : r < r0 → Prec (F l (nn - 1 - r)) (F l r)
/-- The search's bounds. -/
structure SB (a m b mid st0 r0 : Nat) : Prop where
  c1 : a ≤ st0
  c2 : st0 ≤ r0
  c3 : r0 ≤ m
  c4 : r0 ≤ mid
  c5 : mid + m - st0 ≤ b
  c6 : st0 = a ∨ mid + m - st0 = b
  c7 : r0 = m ∨ r0 = mid
  c8 : mid ≤ b
theorem SI.done {l : List Cand} {a m b mid st0 r0 s : Nat} (h : SI l (mid + m) st0 r0 s s) (hb : SB a m b mid st0 r0) (h1 : st0 ≤ s) (h2 : s ≤ r0) : SE l a m b mid s := by
  obtain ⟨c1, c2, c3, c4, c5, c6, c7, c8⟩ := hb
  refine ⟨by omega, by omega, c8, by omega, by omega, fun g1 g2 => h.lo (by omega), fun g1 g2 => ?_⟩
  have := h.hi (by omega)
  exact this
def SymPost (l : List Cand) (w0 : World) (base g cap n a b : Nat) (e : Ending) (w' : World) : Prop := ∃ l', (e = .returned (.tuple #[]) ∧ CoBox w0 w' base g cap n l') ∧ SP l l' a b ∧ Srt l' a b
theorem SymPost.get {l : List Cand} {w0 : World} {base g cap n a b : Nat} {e : Ending} {w' : World} (h : SymPost l w0 base g cap n a b e w') : ∃ l', (e = .returned (.tuple #[]) ∧ CoBox w0 w' base g cap n l') ∧ SP l l' a b ∧ Srt l' a b := h
set_option maxRecDepth 20000 in
set_option maxHeartbeats 2000000 in
theorem sym_gt (l : List Cand) (base g cap n : Nat) (w0 w : World) (N : Nat) (IH : Hid (∀ (l : List Cand) (w : World) (hS : Hid (CoBox w0 w base g cap n l)) (ht : Hid (Tot l)) (a m b : Nat) (hN : b ≤ a + N) (h1 : a < m) (h2 : m < b) (h4 : b ≤ l.length) (h3 : l.length ≤ 1000) (hs1 : Hid (Srt l a m)) (hs2 : Hid (Srt l m b)), Calls Tryz.prog 206 #[.iface 186 (.slice (some ⟨g, 0, none⟩) n cap), .int .i64 a, .int .i64 m, .int .i64 b] w (SymPost l w0 base g cap n a b))) (hS : Hid (CoBox w0 w base g cap n l)) (ht : Hid (Tot l)) (a m b : Nat) (hN : b ≤ a + (N + 1)) (h1 : a < m) (h2 : m < b) (h4 : b ≤ l.length) (h3 : l.length ≤ 1000) (hs1 : Hid (Srt l a m)) (hs2 : Hid (Srt l m b)) (ea : m ≠ a + 1) (eb : b ≠ m + 1) (hm : (a + b) / 2 < m) :
    Calls Tryz.prog 206 #[.iface 186 (.slice (some ⟨g, 0, none⟩) n cap), .int .i64 a, .int .i64 m, .int .i64 b] w (SymPost l w0 base g cap n a b) := by
  have hm1 := mLess (.slice (some ⟨g, 0, none⟩) n cap)
  have hm2 := mSwap (.slice (some ⟨g, 0, none⟩) n cap)
  obtain ⟨d, hd⟩ : ∃ d, m - a = d := ⟨_, rfl⟩
  obtain ⟨d', hd'⟩ : ∃ d', b - m = d' := ⟨_, rfl⟩
  have d1 : (m : Int) - (a : Int) = (d : Int) := by omega
  have d2 : ((d : Int) == 1) = false := by simp; omega
  have d3 : (b : Int) - (m : Int) = (d' : Int) := by omega
  have d4 : ((d' : Int) == 1) = false := by simp; omega
  obtain ⟨mid, hmid⟩ : ∃ mid, (a + b) / 2 = mid := ⟨_, rfl⟩
  have d5 : ((a : Int) + (b : Int)) / 2 = (mid : Int) := by omega
  obtain ⟨nn, hnn⟩ : ∃ nn, mid + m = nn := ⟨_, rfl⟩
  have d6 : (mid : Int) + (m : Int) = (nn : Int) := by omega
  obtain ⟨pm, hpm⟩ : ∃ pm, nn - 1 = pm := ⟨_, rfl⟩
  have d7 : (nn : Int) - 1 = (pm : Int) := by omega
  have NN := Lib.hid hnn
  have m1 : a < mid := by omega
  have m2 : mid < b := by omega
  have t0 : decide ((mid : Int) < (m : Int)) = true := by simp; omega
  obtain ⟨st0, hst⟩ : ∃ st0, nn - b = st0 := ⟨_, rfl⟩
  have d8 : (nn : Int) - (b : Int) = (st0 : Int) := by omega
  have HB : Hid (SB a m b mid st0 mid) := Lib.hid ⟨by omega, by omega, by omega, by omega, by omega, by omega, by omega, by omega⟩
  have hm' : mid < m := by omega
  clear hst hd hd' hmid ea eb hm
  go_enter Tryz.func206, Tryz.ntmps206
  go_wp2_with fail
  go_loopw [18, 19] (fun i j wr => ∃ (p q : Nat), st0 ≤ p ∧ p ≤ q ∧ q ≤ mid ∧ i = .int .i64 p ∧ j = .int .i64 q ∧ Hid (CoBox w0 wr base g cap n l) ∧ Hid (SI l (mid + m) st0 mid p q)) (fun i j _ => (intOf j).toNat - (intOf i).toNat)
  case atStart => exact ⟨st0, mid, Nat.le_refl _, HB.out.c2, Nat.le_refl _, rfl, rfl, hS, Lib.hid ⟨fun h => by omega, fun h => by omega⟩⟩
  case round =>
    obtain ⟨p, q, p1, p2, p3, rfl, rfl, HS, HQ⟩ := hrel
    obtain ⟨c1, c2, c3, c4, c5, c6, c7, c8⟩ := HB.out
    have C6 := Lib.hid c6
    have C7 := Lib.hid c7
    clear c6 c7
    by_cases hlt : p < q
    · have t1 : decide ((p : Int) < q) = true := by simp; omega
      obtain ⟨h, hh⟩ : ∃ h, (p + q) / 2 = h := ⟨_, rfl⟩
      have h0 : ((p : Int) + (q : Int)) / 2 = (h : Int) := by omega
      have k1 : p ≤ h := by omega
      have k2 : h < q := by omega
      have k3 : h < l.length := by omega
      clear hh
      obtain ⟨pc, hpc⟩ : ∃ pc, mid + m - 1 - h = pc := ⟨_, rfl⟩
      have h00 : (pm : Int) - (h : Int) = (pc : Int) := by omega
      have k4 : pc < l.length := by omega
      have HPC := Lib.hid hpc
      clear hpc
      by_cases hp : Prec (F l pc) (F l h)
      · have tp : decide (Prec (F l pc) (F l h)) = true := by simp [hp]
        have HP := Lib.hid (show SI l (mid + m) st0 mid p h from ⟨HQ.out.lo, fun _ => by rw [HPC.out]; exact hp⟩)
        clear hp
        go_wp2_with (first | (go_at_call 290; with_reducible refine (lessF_c l base g cap n w0 _ HS pc h k4 k3).mono ?_; rintro e w3 ⟨rfl, hw⟩; replace HS := Lib.hid (HS.out.below hw); clear hw))
        exact ⟨⟨p, h, by omega, by omega, by omega, rfl, rfl, HS, HP⟩, by simp [intOf]; omega⟩
      · have tp : decide (Prec (F l pc) (F l h)) = false := by simp [hp]
        have HP := Lib.hid (show SI l (mid + m) st0 mid (h + 1) q from ⟨fun _ => by
          have := HPC.out
          rw [show h + 1 - 1 = h by omega, show mid + m - (h + 1) = pc by omega]
          exact ht.out.not k4 k3 (by omega) hp, HQ.out.hi⟩)
        clear hp
        go_wp2_with (first | (go_at_call 290; with_reducible refine (lessF_c l base g cap n w0 _ HS pc h k4 k3).mono ?_; rintro e w3 ⟨rfl, hw⟩; replace HS := Lib.hid (HS.out.below hw); clear hw))
        exact ⟨⟨h + 1, q, by omega, by omega, p3, by go_num, rfl, HS, HP⟩, by simp [intOf]; omega⟩
    · obtain rfl : p = q := by omega
      have SE1 := Lib.hid (HQ.out.done HB.out p1 p3)
      obtain ⟨en, hen⟩ : ∃ en, mid + m - p = en := ⟨_, rfl⟩
      have e0 : (nn : Int) - (p : Int) = (en : Int) := by omega
      have EN := Lib.hid hen
      have q1 : a ≤ p := by omega
      have q2 : p ≤ m := by omega
      have q3 : p ≤ mid := by omega
      have q4 : m ≤ en := by omega
      have q5 : en ≤ b := by omega
      clear hen c1 c2 c3 c4 c5 C6 C7
      go_upto_region 39 with fail
      go_cut [140] (fun v wx => v = .bool (decide (p < m ∧ m < en)) ∧ wr = wx)
      case first =>
        by_cases cA : p < m
        · have tA : decide ((p : Int) < (m : Int)) = true := by simp; omega
          by_cases cB : m < en
          · have tB : decide ((m : Int) < (en : Int)) = true := by simp; omega
            go_wp2_with fail
            go_meet
            exact ⟨congrArg Value.bool (decide_eq_true (p := p < m ∧ m < en) ⟨cA, cB⟩).symm, rfl⟩
          · have tB : decide ((m : Int) < (en : Int)) = false := by simp; omega
            go_wp2_with fail
            go_meet
            exact ⟨congrArg Value.bool (decide_eq_false (p := p < m ∧ m < en) (fun h => cB h.2)).symm, rfl⟩
        · have tA : decide ((p : Int) < (m : Int)) = false := by simp; omega
          go_wp2_with fail
          go_meet
          exact ⟨congrArg Value.bool (decide_eq_false (p := p < m ∧ m < en) (fun h => cA h.1)).symm, rfl⟩
      case rest =>
        obtain ⟨rfl, rfl⟩ := hcut
        go_upto_if 140 with fail
        go_cut [] (fun wx => ∃ r1, Hid (CoBox w0 wx base g cap n r1) ∧ Hid (RO l r1 p m en))
        case first =>
          by_cases c : p < m ∧ m < en
          · have tc : decide (p < m ∧ m < en) = true := by simp [c]
            go_wp2_with (first | (go_at_call 227; with_reducible refine (rot_c l base g cap n w0 _ HS p m en c.1 c.2 (by omega) h3).mono ?_; rintro e w4 ⟨l', ⟨rfl, hw⟩, hr⟩; have HS2 := Lib.hid hw; have HR := Lib.hid hr; clear hw hr))
            go_meet
            exact ⟨l', HS2, HR⟩
          · have tc : decide (p < m ∧ m < en) = false := by simp [c]
            go_wp2_with fail
            go_meet
            exact ⟨l, HS, Lib.hid (RO.idle (by omega) q2 q4)⟩
        case rest =>
          obtain ⟨r1, HS1, HR⟩ := hcut
          have HV1 : Hid (HV l r1 a b mid p en) := Lib.hid (by have e := EN.out; subst e; exact RO.halves SE1.out hs1.out hs2.out HR.out)
          have l1 := HV1.out.sp.len
          have T1 := Lib.hid (ht.out.perm HV1.out.sp.perm)
          clear HR
          go_upto_region 41 with fail
          go_cut [153] (fun v wx => v = .bool (decide (a < p ∧ p < mid)) ∧ wc = wx)
          case first =>
            by_cases cA : a < p
            · have tA : decide ((a : Int) < (p : Int)) = true := by simp; omega
              by_cases cB : p < mid
              · have tB : decide ((p : Int) < (mid : Int)) = true := by simp; omega
                go_wp2_with fail
                go_meet
                exact ⟨congrArg Value.bool (decide_eq_true (p := a < p ∧ p < mid) ⟨cA, cB⟩).symm, rfl⟩
              · have tB : decide ((p : Int) < (mid : Int)) = false := by simp; omega
                go_wp2_with fail
                go_meet
                exact ⟨congrArg Value.bool (decide_eq_false (p := a < p ∧ p < mid) (fun h => cB h.2)).symm, rfl⟩
            · have tA : decide ((a : Int) < (p : Int)) = false := by simp; omega
              go_wp2_with fail
              go_meet
              exact ⟨congrArg Value.bool (decide_eq_false (p := a < p ∧ p < mid) (fun h => cA h.1)).symm, rfl⟩
          case rest =>
            obtain ⟨rfl, rfl⟩ := hcut
            go_upto_if 153 with fail
            go_cut [] (fun wx => ∃ r2, Hid (CoBox w0 wx base g cap n r2) ∧ Hid (SP r1 r2 a mid ∧ Srt r2 a mid))
            case first =>
              by_cases c : a < p ∧ p < mid
              · have tc : decide (a < p ∧ p < mid) = true := by simp [c]
                go_wp2_with (first | (go_at_call 206; with_reducible refine (IH.out r1 _ HS1 T1 a p mid (by omega) c.1 c.2 (by omega) (by omega) (Lib.hid HV1.out.p1) (Lib.hid HV1.out.p2)).mono ?_; rintro e w4 hpost; obtain ⟨l', ⟨rfl, hw⟩, hr⟩ := hpost.get; clear hpost; have HS2 := Lib.hid hw; have HR := Lib.hid hr; clear hw hr))
                go_meet
                exact ⟨l', HS2, HR⟩
              · have tc : decide (a < p ∧ p < mid) = false := by simp [c]
                go_wp2_with fail
                go_meet
                exact ⟨r1, HS1, Lib.hid (HV1.out.first c q1 q3)⟩
            case rest =>
              obtain ⟨r2, HS2, H2⟩ := hcut
              have em : mid ≤ en := by have := EN.out; omega
              have H3 := Lib.hid ((HV1.out.second H2.out.1).resolve_right (by omega))
              have l2 := H2.out.1.len
              have T2 := Lib.hid (T1.out.perm H2.out.1.perm)
              go_upto_region 43 with fail
              go_cut [166] (fun v wx => v = .bool (decide (mid < en ∧ en < b)) ∧ wc = wx)
              case first =>
                by_cases cA : mid < en
                · have tA : decide ((mid : Int) < (en : Int)) = true := by simp; omega
                  by_cases cB : en < b
                  · have tB : decide ((en : Int) < (b : Int)) = true := by simp; omega
                    go_wp2_with fail
                    go_meet
                    exact ⟨congrArg Value.bool (decide_eq_true (p := mid < en ∧ en < b) ⟨cA, cB⟩).symm, rfl⟩
                  · have tB : decide ((en : Int) < (b : Int)) = false := by simp; omega
                    go_wp2_with fail
                    go_meet
                    exact ⟨congrArg Value.bool (decide_eq_false (p := mid < en ∧ en < b) (fun h => cB h.2)).symm, rfl⟩
                · have tA : decide ((mid : Int) < (en : Int)) = false := by simp; omega
                  go_wp2_with fail
                  go_meet
                  exact ⟨congrArg Value.bool (decide_eq_false (p := mid < en ∧ en < b) (fun h => cA h.1)).symm, rfl⟩
              case rest =>
                obtain ⟨rfl, rfl⟩ := hcut
                by_cases c : mid < en ∧ en < b
                · have tc : decide (mid < en ∧ en < b) = true := by simp [c]
                  go_wp2_with (first | (go_at_call 206; with_reducible refine (IH.out r2 _ HS2 T2 mid en b (by omega) c.1 c.2 (by omega) (by omega) (Lib.hid H3.out.1) (Lib.hid H3.out.2)).mono ?_; rintro e w4 hpost; obtain ⟨l', ⟨rfl, hw⟩, hr⟩ := hpost.get; clear hpost; have HS4 := Lib.hid hw; have HR := Lib.hid hr; clear hw hr))
                  go_end0
                  exact ⟨l', ⟨rfl, HS4.out⟩, HV1.out.final ht.out h4 (by omega) (by omega) H2.out HR.out⟩
                · have tc : decide (mid < en ∧ en < b) = false := by simp [c]
                  go_wp2_with fail
                  go_end0
                  exact ⟨r2, ⟨rfl, HS2.out⟩, HV1.out.final ht.out h4 (by omega) (by omega) H2.out (HV.second2 H3.out c em q5)⟩
set_option maxRecDepth 20000 in
set_option maxHeartbeats 2000000 in
theorem sym_le (l : List Cand) (base g cap n : Nat) (w0 w : World) (N : Nat) (IH : Hid (∀ (l : List Cand) (w : World) (hS : Hid (CoBox w0 w base g cap n l)) (ht : Hid (Tot l)) (a m b : Nat) (hN : b ≤ a + N) (h1 : a < m) (h2 : m < b) (h4 : b ≤ l.length) (h3 : l.length ≤ 1000) (hs1 : Hid (Srt l a m)) (hs2 : Hid (Srt l m b)), Calls Tryz.prog 206 #[.iface 186 (.slice (some ⟨g, 0, none⟩) n cap), .int .i64 a, .int .i64 m, .int .i64 b] w (SymPost l w0 base g cap n a b))) (hS : Hid (CoBox w0 w base g cap n l)) (ht : Hid (Tot l)) (a m b : Nat) (hN : b ≤ a + (N + 1)) (h1 : a < m) (h2 : m < b) (h4 : b ≤ l.length) (h3 : l.length ≤ 1000) (hs1 : Hid (Srt l a m)) (hs2 : Hid (Srt l m b)) (ea : m ≠ a + 1) (eb : b ≠ m + 1) (hm : m ≤ (a + b) / 2) :
    Calls Tryz.prog 206 #[.iface 186 (.slice (some ⟨g, 0, none⟩) n cap), .int .i64 a, .int .i64 m, .int .i64 b] w (SymPost l w0 base g cap n a b) := by
  have hm1 := mLess (.slice (some ⟨g, 0, none⟩) n cap)
  have hm2 := mSwap (.slice (some ⟨g, 0, none⟩) n cap)
  obtain ⟨d, hd⟩ : ∃ d, m - a = d := ⟨_, rfl⟩
  obtain ⟨d', hd'⟩ : ∃ d', b - m = d' := ⟨_, rfl⟩
  have d1 : (m : Int) - (a : Int) = (d : Int) := by omega
  have d2 : ((d : Int) == 1) = false := by simp; omega
  have d3 : (b : Int) - (m : Int) = (d' : Int) := by omega
  have d4 : ((d' : Int) == 1) = false := by simp; omega
  obtain ⟨mid, hmid⟩ : ∃ mid, (a + b) / 2 = mid := ⟨_, rfl⟩
  have d5 : ((a : Int) + (b : Int)) / 2 = (mid : Int) := by omega
  obtain ⟨nn, hnn⟩ : ∃ nn, mid + m = nn := ⟨_, rfl⟩
  have d6 : (mid : Int) + (m : Int) = (nn : Int) := by omega
  obtain ⟨pm, hpm⟩ : ∃ pm, nn - 1 = pm := ⟨_, rfl⟩
  have d7 : (nn : Int) - 1 = (pm : Int) := by omega
  have NN := Lib.hid hnn
  have m1 : a < mid := by omega
  have m2 : mid < b := by omega
  have t0 : decide ((mid : Int) < (m : Int)) = false := by simp; omega
  have HB : Hid (SB a m b mid a m) := Lib.hid ⟨by omega, by omega, by omega, by omega, by omega, by omega, by omega, by omega⟩
  have hm' : ¬ mid < m := by omega
  clear hd hd' hmid ea eb hm
  go_enter Tryz.func206, Tryz.ntmps206
  go_wp2_with fail
  go_loopw [18, 19] (fun i j wr => ∃ (p q : Nat), a ≤ p ∧ p ≤ q ∧ q ≤ m ∧ i = .int .i64 p ∧ j = .int .i64 q ∧ Hid (CoBox w0 wr base g cap n l) ∧ Hid (SI l (mid + m) a m p q)) (fun i j _ => (intOf j).toNat - (intOf i).toNat)
  case atStart => exact ⟨a, m, Nat.le_refl _, HB.out.c2, Nat.le_refl _, rfl, rfl, hS, Lib.hid ⟨fun h => by omega, fun h => by omega⟩⟩
  case round =>
    obtain ⟨p, q, p1, p2, p3, rfl, rfl, HS, HQ⟩ := hrel
    obtain ⟨c1, c2, c3, c4, c5, c6, c7, c8⟩ := HB.out
    have C6 := Lib.hid c6
    have C7 := Lib.hid c7
    clear c6 c7
    by_cases hlt : p < q
    · have t1 : decide ((p : Int) < q) = true := by simp; omega
      obtain ⟨h, hh⟩ : ∃ h, (p + q) / 2 = h := ⟨_, rfl⟩
      have h0 : ((p : Int) + (q : Int)) / 2 = (h : Int) := by omega
      have k1 : p ≤ h := by omega
      have k2 : h < q := by omega
      have k3 : h < l.length := by omega
      clear hh
      obtain ⟨pc, hpc⟩ : ∃ pc, mid + m - 1 - h = pc := ⟨_, rfl⟩
      have h00 : (pm : Int) - (h : Int) = (pc : Int) := by omega
      have k4 : pc < l.length := by omega
      have HPC := Lib.hid hpc
      clear hpc
      by_cases hp : Prec (F l pc) (F l h)
      · have tp : decide (Prec (F l pc) (F l h)) = true := by simp [hp]
        have HP := Lib.hid (show SI l (mid + m) a m p h from ⟨HQ.out.lo, fun _ => by rw [HPC.out]; exact hp⟩)
        clear hp
        go_wp2_with (first | (go_at_call 290; with_reducible refine (lessF_c l base g cap n w0 _ HS pc h k4 k3).mono ?_; rintro e w3 ⟨rfl, hw⟩; replace HS := Lib.hid (HS.out.below hw); clear hw))
        exact ⟨⟨p, h, by omega, by omega, by omega, rfl, rfl, HS, HP⟩, by simp [intOf]; omega⟩
      · have tp : decide (Prec (F l pc) (F l h)) = false := by simp [hp]
        have HP := Lib.hid (show SI l (mid + m) a m (h + 1) q from ⟨fun _ => by
          have := HPC.out
          rw [show h + 1 - 1 = h by omega, show mid + m - (h + 1) = pc by omega]
          exact ht.out.not k4 k3 (by omega) hp, HQ.out.hi⟩)
        clear hp
        go_wp2_with (first | (go_at_call 290; with_reducible refine (lessF_c l base g cap n w0 _ HS pc h k4 k3).mono ?_; rintro e w3 ⟨rfl, hw⟩; replace HS := Lib.hid (HS.out.below hw); clear hw))
        exact ⟨⟨h + 1, q, by omega, by omega, p3, by go_num, rfl, HS, HP⟩, by simp [intOf]; omega⟩
    · obtain rfl : p = q := by omega
      have SE1 := Lib.hid (HQ.out.done HB.out p1 p3)
      obtain ⟨en, hen⟩ : ∃ en, mid + m - p = en := ⟨_, rfl⟩
      have e0 : (nn : Int) - (p : Int) = (en : Int) := by omega
      have EN := Lib.hid hen
      have q1 : a ≤ p := by omega
      have q2 : p ≤ m := by omega
      have q3 : p ≤ mid := by omega
      have q4 : m ≤ en := by omega
      have q5 : en ≤ b := by omega
      clear hen c1 c2 c3 c4 c5 C6 C7
      go_upto_region 39 with fail
      go_cut [140] (fun v wx => v = .bool (decide (p < m ∧ m < en)) ∧ wr = wx)
      case first =>
        by_cases cA : p < m
        · have tA : decide ((p : Int) < (m : Int)) = true := by simp; omega
          by_cases cB : m < en
          · have tB : decide ((m : Int) < (en : Int)) = true := by simp; omega
            go_wp2_with fail
            go_meet
            exact ⟨congrArg Value.bool (decide_eq_true (p := p < m ∧ m < en) ⟨cA, cB⟩).symm, rfl⟩
          · have tB : decide ((m : Int) < (en : Int)) = false := by simp; omega
            go_wp2_with fail
            go_meet
            exact ⟨congrArg Value.bool (decide_eq_false (p := p < m ∧ m < en) (fun h => cB h.2)).symm, rfl⟩
        · have tA : decide ((p : Int) < (m : Int)) = false := by simp; omega
          go_wp2_with fail
          go_meet
          exact ⟨congrArg Value.bool (decide_eq_false (p := p < m ∧ m < en) (fun h => cA h.1)).symm, rfl⟩
      case rest =>
        obtain ⟨rfl, rfl⟩ := hcut
        go_upto_if 140 with fail
        go_cut [] (fun wx => ∃ r1, Hid (CoBox w0 wx base g cap n r1) ∧ Hid (RO l r1 p m en))
        case first =>
          by_cases c : p < m ∧ m < en
          · have tc : decide (p < m ∧ m < en) = true := by simp [c]
            go_wp2_with (first | (go_at_call 227; with_reducible refine (rot_c l base g cap n w0 _ HS p m en c.1 c.2 (by omega) h3).mono ?_; rintro e w4 ⟨l', ⟨rfl, hw⟩, hr⟩; have HS2 := Lib.hid hw; have HR := Lib.hid hr; clear hw hr))
            go_meet
            exact ⟨l', HS2, HR⟩
          · have tc : decide (p < m ∧ m < en) = false := by simp [c]
            go_wp2_with fail
            go_meet
            exact ⟨l, HS, Lib.hid (RO.idle (by omega) q2 q4)⟩
        case rest =>
          obtain ⟨r1, HS1, HR⟩ := hcut
          have HV1 : Hid (HV l r1 a b mid p en) := Lib.hid (by have e := EN.out; subst e; exact RO.halves SE1.out hs1.out hs2.out HR.out)
          have l1 := HV1.out.sp.len
          have T1 := Lib.hid (ht.out.perm HV1.out.sp.perm)
          clear HR
          go_upto_region 41 with fail
          go_cut [153] (fun v wx => v = .bool (decide (a < p ∧ p < mid)) ∧ wc = wx)
          case first =>
            by_cases cA : a < p
            · have tA : decide ((a : Int) < (p : Int)) = true := by simp; omega
              by_cases cB : p < mid
              · have tB : decide ((p : Int) < (mid : Int)) = true := by simp; omega
                go_wp2_with fail
                go_meet
                exact ⟨congrArg Value.bool (decide_eq_true (p := a < p ∧ p < mid) ⟨cA, cB⟩).symm, rfl⟩
              · have tB : decide ((p : Int) < (mid : Int)) = false := by simp; omega
                go_wp2_with fail
                go_meet
                exact ⟨congrArg Value.bool (decide_eq_false (p := a < p ∧ p < mid) (fun h => cB h.2)).symm, rfl⟩
            · have tA : decide ((a : Int) < (p : Int)) = false := by simp; omega
              go_wp2_with fail
              go_meet
              exact ⟨congrArg Value.bool (decide_eq_false (p := a < p ∧ p < mid) (fun h => cA h.1)).symm, rfl⟩
          case rest =>
            obtain ⟨rfl, rfl⟩ := hcut
            go_upto_if 153 with fail
            go_cut [] (fun wx => ∃ r2, Hid (CoBox w0 wx base g cap n r2) ∧ Hid (SP r1 r2 a mid ∧ Srt r2 a mid))
            case first =>
              by_cases c : a < p ∧ p < mid
              · have tc : decide (a < p ∧ p < mid) = true := by simp [c]
                go_wp2_with (first | (go_at_call 206; with_reducible refine (IH.out r1 _ HS1 T1 a p mid (by omega) c.1 c.2 (by omega) (by omega) (Lib.hid HV1.out.p1) (Lib.hid HV1.out.p2)).mono ?_; rintro e w4 hpost; obtain ⟨l', ⟨rfl, hw⟩, hr⟩ := hpost.get; clear hpost; have HS2 := Lib.hid hw; have HR := Lib.hid hr; clear hw hr))
                go_meet
                exact ⟨l', HS2, HR⟩
              · have tc : decide (a < p ∧ p < mid) = false := by simp [c]
                go_wp2_with fail
                go_meet
                exact ⟨r1, HS1, Lib.hid (HV1.out.first c q1 q3)⟩
            case rest =>
              obtain ⟨r2, HS2, H2⟩ := hcut
              have em : mid ≤ en := by have := EN.out; omega
              have H3 := Lib.hid ((HV1.out.second H2.out.1).resolve_right (by omega))
              have l2 := H2.out.1.len
              have T2 := Lib.hid (T1.out.perm H2.out.1.perm)
              go_upto_region 43 with fail
              go_cut [166] (fun v wx => v = .bool (decide (mid < en ∧ en < b)) ∧ wc = wx)
              case first =>
                by_cases cA : mid < en
                · have tA : decide ((mid : Int) < (en : Int)) = true := by simp; omega
                  by_cases cB : en < b
                  · have tB : decide ((en : Int) < (b : Int)) = true := by simp; omega
                    go_wp2_with fail
                    go_meet
                    exact ⟨congrArg Value.bool (decide_eq_true (p := mid < en ∧ en < b) ⟨cA, cB⟩).symm, rfl⟩
                  · have tB : decide ((en : Int) < (b : Int)) = false := by simp; omega
                    go_wp2_with fail
                    go_meet
                    exact ⟨congrArg Value.bool (decide_eq_false (p := mid < en ∧ en < b) (fun h => cB h.2)).symm, rfl⟩
                · have tA : decide ((mid : Int) < (en : Int)) = false := by simp; omega
                  go_wp2_with fail
                  go_meet
                  exact ⟨congrArg Value.bool (decide_eq_false (p := mid < en ∧ en < b) (fun h => cA h.1)).symm, rfl⟩
              case rest =>
                obtain ⟨rfl, rfl⟩ := hcut
                by_cases c : mid < en ∧ en < b
                · have tc : decide (mid < en ∧ en < b) = true := by simp [c]
                  go_wp2_with (first | (go_at_call 206; with_reducible refine (IH.out r2 _ HS2 T2 mid en b (by omega) c.1 c.2 (by omega) (by omega) (Lib.hid H3.out.1) (Lib.hid H3.out.2)).mono ?_; rintro e w4 hpost; obtain ⟨l', ⟨rfl, hw⟩, hr⟩ := hpost.get; clear hpost; have HS4 := Lib.hid hw; have HR := Lib.hid hr; clear hw hr))
                  go_end0
                  exact ⟨l', ⟨rfl, HS4.out⟩, HV1.out.final ht.out h4 (by omega) (by omega) H2.out HR.out⟩
                · have tc : decide (mid < en ∧ en < b) = false := by simp [c]
                  go_wp2_with fail
                  go_end0
                  exact ⟨r2, ⟨rfl, HS2.out⟩, HV1.out.final ht.out h4 (by omega) (by omega) H2.out (HV.second2 H3.out c em q5)⟩
theorem sym_c (base g cap n : Nat) (w0 : World) : ∀ (N : Nat) (l : List Cand) (w : World) (hS : Hid (CoBox w0 w base g cap n l)) (ht : Hid (Tot l)) (a m b : Nat) (hN : b ≤ a + N) (h1 : a < m) (h2 : m < b) (h4 : b ≤ l.length) (h3 : l.length ≤ 1000) (hs1 : Hid (Srt l a m)) (hs2 : Hid (Srt l m b)),
    Calls Tryz.prog 206 #[.iface 186 (.slice (some ⟨g, 0, none⟩) n cap), .int .i64 a, .int .i64 m, .int .i64 b] w (SymPost l w0 base g cap n a b) := by
  intro N
  induction N with
  | zero => intro l w hS ht a m b hN h1 h2; omega
  | succ N ih =>
    intro l w hS ht a m b hN h1 h2 h4 h3 hs1 hs2
    by_cases ea : m = a + 1
    · exact sym_lo l base g cap n w0 w hS ht a m b ea h2 h4 h3 hs2
    by_cases eb : b = m + 1
    · exact sym_hi l base g cap n w0 w hS ht a m b (by omega) eb h4 h3 hs1
    by_cases hm : (a + b) / 2 < m
    · exact sym_gt l base g cap n w0 w N (Lib.hid ih) hS ht a m b hN h1 h2 h4 h3 hs1 hs2 ea eb hm
    · exact sym_le l base g cap n w0 w N (Lib.hid ih) hS ht a m b hN h1 h2 h4 h3 hs1 hs2 ea eb (by omega)
end Go.Proofs.YtdgaflcnigljlaaGreatDoor
