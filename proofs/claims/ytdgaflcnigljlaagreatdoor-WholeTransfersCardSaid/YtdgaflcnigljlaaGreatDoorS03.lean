/-
  Contracts and plain facts for the laws on the whole program: the parts below say each what they are. No further condition.
-/
import Derived.Test.YtdgaflcnigljlaaGreatDoorS01
import Derived.Test.YtdgaflcnigljlaaGreatDoorProg
import Derived.WalkKit
import Derived.BigQuiet
import Derived.Deep.QuietTactic
import Derived.Deep.DeepFit
import Derived.WalkLawsBesides
import Derived.Lib.Hide
/-
  Contracts of floored quotient and remainder, for all 64-bit integers. No further condition.
-/
namespace Go.Proofs.YtdgaflcnigljlaaGreatDoor
open Go.RowKit
set_option linter.unusedVariables false

/-- The world after some draws. -/
def Qt (w w' : World) : Prop := ∃ n, w' = w.drewN n
theorem Qt.refl (w : World) : Qt w w := ⟨0, rfl⟩
theorem Qt.of (w : World) (n : Nat) : Qt w (w.drewN n) := ⟨n, rfl⟩
theorem Qt.trans {a b c : World} (h : Qt a b) (g : Qt b c) : Qt a c := by
  obtain ⟨n, rfl⟩ := h
  obtain ⟨m, rfl⟩ := g
  exact ⟨n + m, by rw [World.drewN_drewN]⟩
theorem Qt.below {w w' : World} (h : Qt w w') : Below w.heap.size w w' := by
  obtain ⟨n, rfl⟩ := h
  exact below_drewN (Below.refl _ _) _
theorem ret_int {k : IntKind} {a b : Int} (h : a = b) : Ending.returned (.int k a) = .returned (.int k b) := by rw [h]
theorem ret_bool {a b : Bool} (h : a = b) : Ending.returned (.bool a) = .returned (.bool b) := by rw [h]
theorem ret_ib {k : IntKind} {a b : Int} {c d : Bool} (h : a = b) (g : c = d) : Ending.returned (.tuple #[.int k a, .bool c]) = .returned (.tuple #[.int k b, .bool d]) := by rw [h, g]
theorem ret_iib {k : IntKind} {a b a' b' : Int} {c d : Bool} (h : a = b) (h' : a' = b') (g : c = d) : Ending.returned (.tuple #[.int k a, .int k a', .bool c]) = .returned (.tuple #[.int k b, .int k b', .bool d]) := by rw [h, h', g]

def spl (a b : Int) : Bool := !(decide (b = 0)) && !(decide (a = -9223372036854775808 ∧ b = -1))
def vDiv (a b : Int) : Int := if spl a b = true then a.fdiv b else 0
def vMod (a b : Int) : Int := if spl a b = true then a.fmod b else 0

theorem sp1 {a b : Int} (hq : In64 (a.tdiv b)) (h : a.tmod b = 0) : wrap64 (a.tdiv b) = a.fdiv b ∧ 0 = a.fmod b := by
  obtain ⟨e1, e2⟩ := fdm_zero h
  rw [e1, e2, wrap_in hq]; exact ⟨rfl, rfl⟩
theorem sp2 {a b : Int} (ha1 : -9223372036854775808 ≤ a) (ha2 : a ≤ 9223372036854775807) (hb1 : -9223372036854775808 ≤ b) (hb2 : b ≤ 9223372036854775807) (hb : ¬ b = 0) (hq : In64 (a.tdiv b)) (h : ¬ a.tmod b = 0) (h2 : (a.tmod b != 0) = true ∧ (!decide (a.tmod b < 0) == decide (b < 0)) = true) : wrap64 (wrap64 (a.tdiv b) - 1) = a.fdiv b ∧ wrap64 (a.tmod b + b) = a.fmod b := by
  have hs : ¬ (a.tmod b < 0 ↔ b < 0) := by
    have := h2.2
    intro e
    simp [e] at this
  obtain ⟨e1, e2⟩ := fdm_adj hb h hs
  have := tmod_abs (a := a) hb
  rw [e1, e2, wrap_in hq, wrap_in (tdiv_adj_in ⟨ha1, ha2⟩ hb h)]
  refine ⟨rfl, wrap_in ?_⟩
  unfold In64
  omega
theorem sp3 {a b : Int} (hq : In64 (a.tdiv b)) (h : ¬ a.tmod b = 0) (h2 : (a.tmod b != 0) = false ∨ (!decide (a.tmod b < 0) == decide (b < 0)) = false) : wrap64 (a.tdiv b) = a.fdiv b ∧ a.tmod b = a.fmod b := by
  have hs : (a.tmod b < 0 ↔ b < 0) := by
    rcases h2 with h2 | h2
    · simp [h] at h2
    · simp at h2; simpa using h2
  obtain ⟨e1, e2⟩ := fdm_same h hs
  rw [e1, e2, wrap_in hq]; exact ⟨rfl, rfl⟩

set_option maxHeartbeats 400000 in
theorem split_yes (a b : Int) (w : World) (ha1 : -9223372036854775808 ≤ a) (ha2 : a ≤ 9223372036854775807) (hb1 : -9223372036854775808 ≤ b) (hb2 : b ≤ 9223372036854775807) (h : spl a b = true) : Calls Tryz.prog 174 #[.int .i64 a, .int .i64 b] w fun e w' => e = .returned (.tuple #[.int .i64 (a.fdiv b), .int .i64 (a.fmod b), .bool true]) ∧ Qt w w' := by
  have hne : ¬ b = 0 := by simp [spl] at h; omega
  have hm : ¬ (a = -9223372036854775808 ∧ b = -1) := by simp [spl] at h; omega
  have hq := tdiv_in ⟨ha1, ha2⟩ hm
  clear h
  have Hq := Lib.hid hq
  have h0 : (b == 0) = false := by simpa using hne
  by_cases h1 : a = -9223372036854775808
  · have h2 : (a == -9223372036854775808) = true := by simpa using h1
    have h3 : (b == -1) = false := by simp; omega
    clear h1 hq hm
    go_enter Tryz.func174, Tryz.ntmps174
    go_wp2_with fail
    go_quiet (fail)
    go_wp2_with fail
    all_goals (go_ret3; first | (obtain ⟨e1, e2⟩ := sp1 Hq.out ‹_›; exact ⟨ret_iib e1 e2 rfl, Qt.of _ _⟩) | (obtain ⟨e1, e2⟩ := sp2 ha1 ha2 hb1 hb2 hne Hq.out ‹_› ‹_›; exact ⟨ret_iib e1 e2 rfl, Qt.of _ _⟩) | (obtain ⟨e1, e2⟩ := sp3 Hq.out ‹_› ‹_›; exact ⟨ret_iib e1 e2 rfl, Qt.of _ _⟩))
  · have h2 : (a == -9223372036854775808) = false := by simpa using h1
    clear h1 hq hm
    go_enter Tryz.func174, Tryz.ntmps174
    go_wp2_with fail
    go_quiet (fail)
    go_wp2_with fail
    all_goals (go_ret3; first | (obtain ⟨e1, e2⟩ := sp1 Hq.out ‹_›; exact ⟨ret_iib e1 e2 rfl, Qt.of _ _⟩) | (obtain ⟨e1, e2⟩ := sp2 ha1 ha2 hb1 hb2 hne Hq.out ‹_› ‹_›; exact ⟨ret_iib e1 e2 rfl, Qt.of _ _⟩) | (obtain ⟨e1, e2⟩ := sp3 Hq.out ‹_› ‹_›; exact ⟨ret_iib e1 e2 rfl, Qt.of _ _⟩))

set_option maxHeartbeats 400000 in
theorem split_no (a b : Int) (w : World) (h : spl a b = false) : Calls Tryz.prog 174 #[.int .i64 a, .int .i64 b] w fun e w' => e = .returned (.tuple #[.int .i64 0, .int .i64 0, .bool false]) ∧ Qt w w' := by
  by_cases hb : b = 0
  · have h0 : (b == 0) = true := by simpa using hb
    clear hb h
    go_enter Tryz.func174, Tryz.ntmps174
    go_wp2_with fail
    go_ret3
    exact ⟨rfl, Qt.refl _⟩
  · have h0 : (b == 0) = false := by simpa using hb
    have h1 : (a == -9223372036854775808) = true := by simp [spl, hb] at h; simpa using h.1
    have h2 : (b == -1) = true := by simp [spl, hb] at h; simpa using h.2
    clear hb h
    go_enter Tryz.func174, Tryz.ntmps174
    go_wp2_with fail
    go_ret3
    exact ⟨rfl, Qt.refl _⟩

theorem split_c (a b : Int) (w : World) (ha1 : -9223372036854775808 ≤ a) (ha2 : a ≤ 9223372036854775807) (hb1 : -9223372036854775808 ≤ b) (hb2 : b ≤ 9223372036854775807) : Calls Tryz.prog 174 #[.int .i64 a, .int .i64 b] w fun e w' => e = .returned (.tuple #[.int .i64 (vDiv a b), .int .i64 (vMod a b), .bool (spl a b)]) ∧ Qt w w' := by
  cases h : spl a b
  · rw [show vDiv a b = 0 by simp [vDiv, h], show vMod a b = 0 by simp [vMod, h]]; exact split_no a b w h
  · rw [show vDiv a b = a.fdiv b by simp [vDiv, h], show vMod a b = a.fmod b by simp [vMod, h]]; exact split_yes a b w ha1 ha2 hb1 hb2 h

set_option maxHeartbeats 400000 in
theorem mod_c (a b : Int) (w : World) (ha1 : -9223372036854775808 ≤ a) (ha2 : a ≤ 9223372036854775807) (hb1 : -9223372036854775808 ≤ b) (hb2 : b ≤ 9223372036854775807) : Calls Tryz.prog 135 #[.int .i64 a, .int .i64 b] w fun e w' => e = .returned (.tuple #[.int .i64 (vMod a b), .bool (spl a b)]) ∧ Qt w w' := by
  go_enter Tryz.func135, Tryz.ntmps135
  go_wp2_with (go_at_call 174; refine (split_c _ _ _ ha1 ha2 hb1 hb2).mono ?_; rintro e w' ⟨rfl, hw⟩)
  go_ret2
  exact ⟨rfl, hw⟩

set_option maxHeartbeats 400000 in
theorem div_c (a b : Int) (w : World) (ha1 : -9223372036854775808 ≤ a) (ha2 : a ≤ 9223372036854775807) (hb1 : -9223372036854775808 ≤ b) (hb2 : b ≤ 9223372036854775807) : Calls Tryz.prog 175 #[.int .i64 a, .int .i64 b] w fun e w' => e = .returned (.tuple #[.int .i64 (vDiv a b), .bool (spl a b)]) ∧ Qt w w' := by
  go_enter Tryz.func175, Tryz.ntmps175
  go_wp2_with (go_at_call 174; refine (split_c _ _ _ ha1 ha2 hb1 hb2).mono ?_; rintro e w' ⟨rfl, hw⟩)
  go_ret2
  exact ⟨rfl, hw⟩

theorem wrap_mod (n : Int) : ∃ k, wrap64 n = n + 18446744073709551616 * k := ⟨(wrap64 n - n) / 18446744073709551616, by unfold wrap64; omega⟩
/-- the walk's test 'q*b != a' holds exactly if there is a remainder -/
theorem back_iff {a b : Int} (ha : In64 a) (hb : In64 b) (hq : In64 (a.tdiv b)) : wrap64 (wrap64 (a.tdiv b) * b) = a ↔ a.tmod b = 0 := by
  have e := Int.mul_tdiv_add_tmod a b
  have hab : In64 (a.tdiv b * b) := by
    have n1 : (a.tdiv b * b).natAbs ≤ a.natAbs := by
      rw [Int.natAbs_mul, Int.natAbs_tdiv]; exact Nat.div_mul_le_self _ _
    have n2 : a.tdiv b * b = a - a.tmod b := by rw [Int.mul_comm]; omega
    have n3 := tmod_neg_iff (a := a) (b := b)
    have n4 : (a.tmod b).natAbs ≤ a.natAbs := by rw [Int.natAbs_tmod]; exact Nat.mod_le _ _
    unfold In64 at *
    by_cases z : a.tmod b = 0
    · omega
    · have := n3 z; omega
  rw [wrap_in hq, wrap_in hab, Int.mul_comm]
  omega
theorem rd1 {a b : Int} (ha : In64 a) (hb : In64 b) (hq : In64 (a.tdiv b)) (h : wrap64 (wrap64 (a.tdiv b) * b) = a) : wrap64 (a.tdiv b) = a.fdiv b := by
  rw [back_iff ha hb hq] at h
  rw [wrap_in hq, (fdm_zero h).1]
theorem rd2 {a b : Int} (hb0 : ¬ b = 0) (ha : In64 a) (hb : In64 b) (hq : In64 (a.tdiv b)) (h : ¬ wrap64 (wrap64 (a.tdiv b) * b) = a) (h2 : (wrap64 (wrap64 (a.tdiv b) * b) != a) = true ∧ (!decide (a < 0) == decide (b < 0)) = true) : wrap64 (wrap64 (a.tdiv b) - 1) = a.fdiv b := by
  rw [back_iff ha hb hq] at h
  rw [wrap_in hq, wrap_in (tdiv_adj_in ha hb0 h)]
  have hs : ¬ (a.tmod b < 0 ↔ b < 0) := by
    rw [tmod_neg_iff h]; have := h2.2; intro e; simp [e] at this
  rw [(fdm_adj hb0 h hs).1]
theorem rd3 {a b : Int} (hb0 : ¬ b = 0) (ha : In64 a) (hb : In64 b) (hq : In64 (a.tdiv b)) (h : ¬ wrap64 (wrap64 (a.tdiv b) * b) = a) (h2 : (wrap64 (wrap64 (a.tdiv b) * b) != a) = false ∨ (!decide (a < 0) == decide (b < 0)) = false) : wrap64 (a.tdiv b) = a.fdiv b := by
  have hs : (a < 0 ↔ b < 0) := by
    rcases h2 with h2 | h2
    · simp [h] at h2
    · simp at h2; simpa using h2
  rw [back_iff ha hb hq] at h
  rw [← tmod_neg_iff h] at hs
  rw [wrap_in hq, (fdm_same h hs).1]

theorem spl_iff {a b : Int} : spl a b = true ↔ ¬ b = 0 ∧ ¬ (a = -9223372036854775808 ∧ b = -1) := by simp [spl]; omega

set_option maxHeartbeats 400000 in
theorem rdiv_c (a b : Int) (w : World) (ha1 : -9223372036854775808 ≤ a) (ha2 : a ≤ 9223372036854775807) (hb1 : -9223372036854775808 ≤ b) (hb2 : b ≤ 9223372036854775807) (h : spl a b = true) : Calls Tryz.prog 69 #[.int .i64 a, .int .i64 b] w fun e w' => e = .returned (.int .i64 (a.fdiv b)) ∧ w = w' := by
  obtain ⟨hb, hm⟩ := spl_iff.1 h
  have HA := Lib.hid (show In64 a from ⟨ha1, ha2⟩)
  have HB := Lib.hid (show In64 b from ⟨hb1, hb2⟩)
  have HQ := Lib.hid (tdiv_in ⟨ha1, ha2⟩ hm)
  clear h hm
  go_enter Tryz.func69, Tryz.ntmps69
  go_wp2
  · go_ret
    exact ⟨ret_int (rd1 HA.out HB.out HQ.out ‹_›), rfl⟩
  · go_ret
    exact ⟨ret_int (rd2 hb HA.out HB.out HQ.out ‹_› ‹_›), rfl⟩
  · go_ret
    exact ⟨ret_int (rd3 hb HA.out HB.out HQ.out ‹_› ‹_›), rfl⟩

theorem rm1 {a b : Int} (hb0 : ¬ b = 0) (hb : In64 b) : wrap64 (a - wrap64 (b * a.fdiv b)) = a.fmod b := by
  have e := Int.mul_fdiv_add_fmod a b
  have f : In64 (a.fmod b) := by
    rw [Int.fmod_eq_emod]
    have p := Int.emod_nonneg a hb0
    have q := Int.emod_lt a hb0
    unfold In64 at *
    split
    · omega
    · omega
  unfold In64 at *
  generalize b * a.fdiv b = m at *
  unfold wrap64
  omega

set_option maxHeartbeats 400000 in
theorem rmod_c (a b : Int) (w : World) (ha1 : -9223372036854775808 ≤ a) (ha2 : a ≤ 9223372036854775807) (hb1 : -9223372036854775808 ≤ b) (hb2 : b ≤ 9223372036854775807) (h : spl a b = true) : Calls Tryz.prog 42 #[.int .i64 a, .int .i64 b] w fun e w' => e = .returned (.int .i64 (a.fmod b)) ∧ w = w' := by
  obtain ⟨hb, hm⟩ := spl_iff.1 h
  have H := Lib.hid h
  have F := Lib.hid (rm1 (a := a) hb ⟨hb1, hb2⟩)
  clear h hm
  go_enter Tryz.func42, Tryz.ntmps42
  go_wp2_with (go_at_call 69; refine (rdiv_c _ _ _ ha1 ha2 hb1 hb2 H.out).mono ?_; rintro e w' ⟨rfl, rfl⟩)
  go_ret
  exact ⟨ret_int F.out, rfl⟩
end Go.Proofs.YtdgaflcnigljlaaGreatDoor
