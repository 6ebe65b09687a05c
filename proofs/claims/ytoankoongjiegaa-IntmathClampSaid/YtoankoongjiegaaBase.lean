/-
  Contracts of the leaf functions of package intmath and of its reference (quotient, remainder, sum, difference, product, clamp), for all 64-bit integers. No further condition.
-/
import Derived.Test.YtoankoongjiegaaProg
import Derived.Test.YtoankoongjiegaaNum
import Derived.WalkKit
import Derived.BigQuiet
import Derived.Deep.QuietTactic
import Derived.Deep.DeepFit
import Derived.WalkLawsBesides
import Derived.Lib.Hide
import Derived.Test.YtoankoongjiegaaShelf
namespace Go.Proofs.Ytoankoongjiegaa
open Go.RowKit
set_option linter.unusedVariables false

theorem ret_int {k : IntKind} {a b : Int} (h : a = b) : Ending.returned (.int k a) = .returned (.int k b) := by rw [h]
theorem ret_bool {a b : Bool} (h : a = b) : Ending.returned (.bool a) = .returned (.bool b) := by rw [h]
theorem ret_ib {k : IntKind} {a b : Int} {c d : Bool} (h : a = b) (g : c = d) : Ending.returned (.tuple #[.int k a, .bool c]) = .returned (.tuple #[.int k b, .bool d]) := by rw [h, g]
theorem ret_iib {k : IntKind} {a b a' b' : Int} {c d : Bool} (h : a = b) (h' : a' = b') (g : c = d) : Ending.returned (.tuple #[.int k a, .int k a', .bool c]) = .returned (.tuple #[.int k b, .int k b', .bool d]) := by rw [h, h', g]

def in64 (n : Int) : Bool := decide (-9223372036854775808 ≤ n ∧ n ≤ 9223372036854775807)
def spl (a b : Int) : Bool := !(decide (b = 0)) && !(decide (a = -9223372036854775808 ∧ b = -1))
def vDiv (a b : Int) : Int := if spl a b = true then a.fdiv b else 0
def vMod (a b : Int) : Int := if spl a b = true then a.fmod b else 0
def vIf (n : Int) : Int := if in64 n = true then n else 0
def vClamp (n l h : Int) : Int := max l (min n h)

set_option maxHeartbeats 400000 in
theorem clamp_c (n l h : Int) (w : World) : Calls Try.prog 12 #[.int .i64 n, .int .i64 l, .int .i64 h] w fun e w' => e = .returned (.int .i64 (vClamp n l h)) ∧ w = w' := by
  go_enter Try.func12, Try.ntmps12
  go_wp2
  all_goals (go_ret; exact ⟨ret_int (by unfold vClamp; omega), rfl⟩)

set_option maxHeartbeats 400000 in
theorem adds_c (a b : Int) (w : World) (hb : -9223372036854775808 ≤ b ∧ b ≤ 9223372036854775807) (ha : -9223372036854775808 ≤ a ∧ a ≤ 9223372036854775807) : Calls Try.prog 8 #[.int .i64 a, .int .i64 b] w fun e w' => e = .returned (.bool (in64 (a + b))) ∧ w = w' := by
  go_enter Try.func8, Try.ntmps8
  go_wp2
  all_goals (go_ret; exact ⟨ret_bool (by unfold in64; rw [decide_eq_decide]; omega), rfl⟩)

set_option maxHeartbeats 400000 in
theorem subs_c (a b : Int) (w : World) (hb : -9223372036854775808 ≤ b ∧ b ≤ 9223372036854775807) (ha : -9223372036854775808 ≤ a ∧ a ≤ 9223372036854775807) : Calls Try.prog 19 #[.int .i64 a, .int .i64 b] w fun e w' => e = .returned (.bool (in64 (a - b))) ∧ w = w' := by
  go_enter Try.func19, Try.ntmps19
  go_wp2
  all_goals (go_ret; exact ⟨ret_bool (by unfold in64; rw [decide_eq_decide]; omega), rfl⟩)

set_option maxHeartbeats 400000 in
theorem splits_c (a b : Int) (w : World) : Calls Try.prog 9 #[.int .i64 a, .int .i64 b] w fun e w' => e = .returned (.bool (spl a b)) ∧ w = w' := by
  go_enter Try.func9, Try.ntmps9
  go_wp2
  all_goals (go_ret; exact ⟨ret_bool (by rw [Bool.eq_iff_iff]; simp [spl]; omega), rfl⟩)

theorem sp1 {a b : Int} (hq : In64 (a.tdiv b)) (h : a.tmod b = 0) : wrap64 (a.tdiv b) = a.fdiv b ∧ 0 = a.fmod b := by
  obtain ⟨e1, e2⟩ := fdm_zero h
  rw [e1, e2, wrap_in hq]; exact ⟨rfl, rfl⟩
theorem sp2 {a b : Int} (ha1 : -9223372036854775808 ≤ a) (ha2 : a ≤ 9223372036854775807) (hb1 : -9223372036854775808 ≤ b) (hb2 : b ≤ 9223372036854775807) (hb : ¬ b = 0) (hq : In64 (a.tdiv b)) (h : ¬ a.tmod b = 0) (h2 : (a.tmod b != 0) = true ∧ (!decide (a.tmod b < 0) == decide (b < 0)) = true) : wrap64 (wrap64 (a.tdiv b) - 1) = a.fdiv b ∧ wrap64 (a.tmod b + b) = a.fmod b := by
  have hs : ¬ (a.tmod b < 0 ↔ b < 0) := by
    have := h2.2
    intro e
    simp [e] at this
  obtain ⟨e1, e2⟩ := fdm_adj hb h hs
  have := tmod_abs (a := a) hb
  rw [e1, e2, wrap_in hq, wrap_in (tdiv_adj_in ⟨ha1, ha2⟩ hb h)]
  refine ⟨rfl, wrap_in ?_⟩
  unfold In64
  omega
theorem sp3 {a b : Int} (hq : In64 (a.tdiv b)) (h : ¬ a.tmod b = 0) (h2 : (a.tmod b != 0) = false ∨ (!decide (a.tmod b < 0) == decide (b < 0)) = false) : wrap64 (a.tdiv b) = a.fdiv b ∧ a.tmod b = a.fmod b := by
  have hs : (a.tmod b < 0 ↔ b < 0) := by
    rcases h2 with h2 | h2
    · simp [h] at h2
    · simp at h2; simpa using h2
  obtain ⟨e1, e2⟩ := fdm_same h hs
  rw [e1, e2, wrap_in hq]; exact ⟨rfl, rfl⟩

set_option maxHeartbeats 400000 in
theorem split_yes (a b : Int) (w : World) (ha1 : -9223372036854775808 ≤ a) (ha2 : a ≤ 9223372036854775807) (hb1 : -9223372036854775808 ≤ b) (hb2 : b ≤ 9223372036854775807) (h : spl a b = true) : Calls Try.prog 23 #[.int .i64 a, .int .i64 b] w fun e w' => e = .returned (.tuple #[.int .i64 (a.fdiv b), .int .i64 (a.fmod b), .bool true]) ∧ Below w.heap.size w w' := by
  have hne : ¬ b = 0 := by simp [spl] at h; omega
  have hm : ¬ (a = -9223372036854775808 ∧ b = -1) := by simp [spl] at h; omega
  have hq := tdiv_in ⟨ha1, ha2⟩ hm
  clear h
  have Hq := Lib.hid hq
  have h0 : (b == 0) = false := by simpa using hne
  by_cases h1 : a = -9223372036854775808
  · have h2 : (a == -9223372036854775808) = true := by simpa using h1
    have h3 : (b == -1) = false := by simp; omega
    clear h1 hq hm
    go_enter Try.func23, Try.ntmps23
    go_wp2_with fail
    go_quiet (fail)
    go_wp2_with fail
    all_goals (go_ret3; first | (obtain ⟨e1, e2⟩ := sp1 Hq.out ‹_›; exact ⟨ret_iib e1 e2 rfl, below_drewN (Below.refl _ _) _⟩) | (obtain ⟨e1, e2⟩ := sp2 ha1 ha2 hb1 hb2 hne Hq.out ‹_› ‹_›; exact ⟨ret_iib e1 e2 rfl, below_drewN (Below.refl _ _) _⟩) | (obtain ⟨e1, e2⟩ := sp3 Hq.out ‹_› ‹_›; exact ⟨ret_iib e1 e2 rfl, below_drewN (Below.refl _ _) _⟩))
  · have h2 : (a == -9223372036854775808) = false := by simpa using h1
    clear h1 hq hm
    go_enter Try.func23, Try.ntmps23
    go_wp2_with fail
    go_quiet (fail)
    go_wp2_with fail
    all_goals (go_ret3; first | (obtain ⟨e1, e2⟩ := sp1 Hq.out ‹_›; exact ⟨ret_iib e1 e2 rfl, below_drewN (Below.refl _ _) _⟩) | (obtain ⟨e1, e2⟩ := sp2 ha1 ha2 hb1 hb2 hne Hq.out ‹_› ‹_›; exact ⟨ret_iib e1 e2 rfl, below_drewN (Below.refl _ _) _⟩) | (obtain ⟨e1, e2⟩ := sp3 Hq.out ‹_› ‹_›; exact ⟨ret_iib e1 e2 rfl, below_drewN (Below.refl _ _) _⟩))

set_option maxHeartbeats 400000 in
theorem split_no (a b : Int) (w : World) (h : spl a b = false) : Calls Try.prog 23 #[.int .i64 a, .int .i64 b] w fun e w' => e = .returned (.tuple #[.int .i64 0, .int .i64 0, .bool false]) ∧ Below w.heap.size w w' := by
  by_cases hb : b = 0
  · have h0 : (b == 0) = true := by simpa using hb
    clear hb h
    go_enter Try.func23, Try.ntmps23
    go_wp2_with fail
    go_ret3
    exact ⟨rfl, Below.refl _ _⟩
  · have h0 : (b == 0) = false := by simpa using hb
    have h1 : (a == -9223372036854775808) = true := by simp [spl, hb] at h; simpa using h.1
    have h2 : (b == -1) = true := by simp [spl, hb] at h; simpa using h.2
    clear hb h
    go_enter Try.func23, Try.ntmps23
    go_wp2_with fail
    go_ret3
    exact ⟨rfl, Below.refl _ _⟩

theorem split_c (a b : Int) (w : World) (ha1 : -9223372036854775808 ≤ a) (ha2 : a ≤ 9223372036854775807) (hb1 : -9223372036854775808 ≤ b) (hb2 : b ≤ 9223372036854775807) : Calls Try.prog 23 #[.int .i64 a, .int .i64 b] w fun e w' => e = .returned (.tuple #[.int .i64 (vDiv a b), .int .i64 (vMod a b), .bool (spl a b)]) ∧ Below w.heap.size w w' := by
  cases h : spl a b
  · rw [show vDiv a b = 0 by simp [vDiv, h], show vMod a b = 0 by simp [vMod, h]]; exact split_no a b w h
  · rw [show vDiv a b = a.fdiv b by simp [vDiv, h], show vMod a b = a.fmod b by simp [vMod, h]]; exact split_yes a b w ha1 ha2 hb1 hb2 h

set_option maxHeartbeats 400000 in
theorem div_c (a b : Int) (w : World) (ha1 : -9223372036854775808 ≤ a) (ha2 : a ≤ 9223372036854775807) (hb1 : -9223372036854775808 ≤ b) (hb2 : b ≤ 9223372036854775807) : Calls Try.prog 10 #[.int .i64 a, .int .i64 b] w fun e w' => e = .returned (.tuple #[.int .i64 (vDiv a b), .bool (spl a b)]) ∧ Below w.heap.size w w' := by
  go_enter Try.func10, Try.ntmps10
  go_wp2_with (go_at_call 23; refine (split_c _ _ _ ha1 ha2 hb1 hb2).mono ?_; rintro e w' ⟨rfl, hw⟩)
  go_ret2
  exact ⟨rfl, hw⟩

set_option maxHeartbeats 400000 in
theorem mod_c (a b : Int) (w : World) (ha1 : -9223372036854775808 ≤ a) (ha2 : a ≤ 9223372036854775807) (hb1 : -9223372036854775808 ≤ b) (hb2 : b ≤ 9223372036854775807) : Calls Try.prog 11 #[.int .i64 a, .int .i64 b] w fun e w' => e = .returned (.tuple #[.int .i64 (vMod a b), .bool (spl a b)]) ∧ Below w.heap.size w w' := by
  go_enter Try.func11, Try.ntmps11
  go_wp2_with (go_at_call 23; refine (split_c _ _ _ ha1 ha2 hb1 hb2).mono ?_; rintro e w' ⟨rfl, hw⟩)
  go_ret2
  exact ⟨rfl, hw⟩

theorem below2 (w : World) (o o' : Obj) : Below w.heap.size w ((w.alloc o).alloc o') := ((Below.refl _ _).alloc (Nat.le_refl _) _).alloc (by simp) _
theorem in64_iff {n : Int} : in64 n = true ↔ -9223372036854775808 ≤ n ∧ n ≤ 9223372036854775807 := by simp [in64]
theorem in64_wrap (n : Int) : in64 n = true ↔ wrap64 n = n := by
  rw [in64_iff]; unfold wrap64; omega
theorem vIf_yes {n : Int} (h : wrap64 n = n) : wrap64 n = vIf n ∧ true = in64 n := by
  have := (in64_wrap n).2 h
  rw [this]; unfold vIf; rw [if_pos this, h]; exact ⟨rfl, rfl⟩
theorem vIf_no {n : Int} (h : ¬ wrap64 n = n) : 0 = vIf n ∧ false = in64 n := by
  have : ¬ in64 n = true := fun e => h ((in64_wrap n).1 e)
  unfold vIf; rw [if_neg this]; exact ⟨rfl, by simpa using this⟩
theorem ad1 {a b : Int} (ha1 : -9223372036854775808 ≤ a) (ha2 : a ≤ 9223372036854775807) (hb1 : -9223372036854775808 ≤ b) (hb2 : b ≤ 9223372036854775807) (h : (!decide (wrap64 (a + b) < a) == decide (b < 0)) = true) : 0 = vIf (a + b) ∧ false = in64 (a + b) := by
  refine vIf_no ?_
  intro e; rw [e] at h
  by_cases hb : b < 0
  · simp [hb] at h; omega
  · simp [hb] at h; omega
theorem ad2 {a b : Int} (ha1 : -9223372036854775808 ≤ a) (ha2 : a ≤ 9223372036854775807) (hb1 : -9223372036854775808 ≤ b) (hb2 : b ≤ 9223372036854775807) (h : (!decide (wrap64 (a + b) < a) == decide (b < 0)) = false) : wrap64 (a + b) = vIf (a + b) ∧ true = in64 (a + b) := by
  refine vIf_yes ?_
  by_cases hb : b < 0
  · simp [hb] at h; unfold wrap64 at *; omega
  · simp [hb] at h; unfold wrap64 at *; omega
theorem su1 {a b : Int} (ha1 : -9223372036854775808 ≤ a) (ha2 : a ≤ 9223372036854775807) (hb1 : -9223372036854775808 ≤ b) (hb2 : b ≤ 9223372036854775807) (h : (!decide (a < wrap64 (a - b)) == decide (b < 0)) = true) : 0 = vIf (a - b) ∧ false = in64 (a - b) := by
  refine vIf_no ?_
  intro e; rw [e] at h
  by_cases hb : b < 0
  · simp [hb] at h; omega
  · simp [hb] at h; omega
theorem su2 {a b : Int} (ha1 : -9223372036854775808 ≤ a) (ha2 : a ≤ 9223372036854775807) (hb1 : -9223372036854775808 ≤ b) (hb2 : b ≤ 9223372036854775807) (h : (!decide (a < wrap64 (a - b)) == decide (b < 0)) = false) : wrap64 (a - b) = vIf (a - b) ∧ true = in64 (a - b) := by
  refine vIf_yes ?_
  by_cases hb : b < 0
  · simp [hb] at h; unfold wrap64 at *; omega
  · simp [hb] at h; unfold wrap64 at *; omega

set_option maxHeartbeats 400000 in
theorem add_c (a b : Int) (w : World) (ha1 : -9223372036854775808 ≤ a) (ha2 : a ≤ 9223372036854775807) (hb1 : -9223372036854775808 ≤ b) (hb2 : b ≤ 9223372036854775807) : Calls Try.prog 16 #[.int .i64 a, .int .i64 b] w fun e w' => e = .returned (.tuple #[.int .i64 (vIf (a + b)), .bool (in64 (a + b))]) ∧ Below w.heap.size w w' := by
  go_enter Try.func16, Try.ntmps16
  go_wp2
  · go_ret2
    obtain ⟨e1, e2⟩ := ad1 ha1 ha2 hb1 hb2 ‹_›
    exact ⟨ret_ib e1 e2, below2 _ _ _⟩
  · go_ret2
    obtain ⟨e1, e2⟩ := ad2 ha1 ha2 hb1 hb2 ‹_›
    exact ⟨ret_ib e1 e2, below2 _ _ _⟩

set_option maxHeartbeats 400000 in
theorem sub_c (a b : Int) (w : World) (ha1 : -9223372036854775808 ≤ a) (ha2 : a ≤ 9223372036854775807) (hb1 : -9223372036854775808 ≤ b) (hb2 : b ≤ 9223372036854775807) : Calls Try.prog 17 #[.int .i64 a, .int .i64 b] w fun e w' => e = .returned (.tuple #[.int .i64 (vIf (a - b)), .bool (in64 (a - b))]) ∧ Below w.heap.size w w' := by
  go_enter Try.func17, Try.ntmps17
  go_wp2
  · go_ret2
    obtain ⟨e1, e2⟩ := su1 ha1 ha2 hb1 hb2 ‹_›
    exact ⟨ret_ib e1 e2, below2 _ _ _⟩
  · go_ret2
    obtain ⟨e1, e2⟩ := su2 ha1 ha2 hb1 hb2 ‹_›
    exact ⟨ret_ib e1 e2, below2 _ _ _⟩

set_option maxHeartbeats 400000 in
theorem mag_c (a : Int) (w : World) (ha1 : -9223372036854775808 ≤ a) (ha2 : a ≤ 9223372036854775807) : Calls Try.prog 28 #[.int .i64 a] w fun e w' => e = .returned (.int .u64 ((a.natAbs : Nat) : Int)) ∧ w = w' := by
  go_enter Try.func28, Try.ntmps28
  go_wp2
  · go_ret
    exact ⟨ret_int (by rw [IntKind.wrap_u64, IntKind.wrap_u64]; omega), rfl⟩
  · go_ret
    exact ⟨ret_int (by omega), rfl⟩

theorem mul64_c (x y : Nat) (hx : x < 18446744073709551616) (hy : y < 18446744073709551616) (w : World) :
    Calls Try.prog 27 #[.int .u64 x, .int .u64 y] w fun e w' => e = .returned (.tuple #[.int .u64 ((x * y / 18446744073709551616 : Nat) : Int), .int .u64 ((x * y % 18446744073709551616 : Nat) : Int)]) ∧ w = w' :=
  (Try.bits_Mul64 x y hx hy w).mono fun _ _ ⟨a, b⟩ => ⟨a, b.symm⟩

theorem mul_same {a b : Int} (h : (!decide (a < 0) == decide (b < 0)) = false) : a * b = (a.natAbs : Int) * (b.natAbs : Int) := by
  by_cases h1 : a < 0
  · have h2 : b < 0 := by simpa [h1] using h
    rw [show (a.natAbs : Int) = -a by omega, show (b.natAbs : Int) = -b by omega, Int.neg_mul_neg]
  · have h2 : ¬ b < 0 := by simpa [h1] using h
    rw [show (a.natAbs : Int) = a by omega, show (b.natAbs : Int) = b by omega]
theorem mul_diff {a b : Int} (h : (!decide (a < 0) == decide (b < 0)) = true) : a * b = -((a.natAbs : Int) * (b.natAbs : Int)) := by
  by_cases h1 : a < 0
  · have h2 : ¬ b < 0 := by simpa [h1] using h
    rw [show (a.natAbs : Int) = -a by omega, show (b.natAbs : Int) = b by omega, Int.neg_mul, Int.neg_neg]
  · have h2 : b < 0 := by simpa [h1] using h
    rw [show (a.natAbs : Int) = a by omega, show (b.natAbs : Int) = -b by omega, Int.mul_neg, Int.neg_neg]
theorem absmul_nonneg (a b : Int) : 0 ≤ (a.natAbs : Int) * (b.natAbs : Int) := Int.mul_nonneg (by omega) (by omega)
theorem pd1 {a b : Int} (h : (!decide (a < 0) == decide (b < 0)) = true) (h2 : 0 < (a.natAbs : Int) * (b.natAbs : Int) / 18446744073709551616 ∨ 9223372036854775808 < (a.natAbs : Int) * (b.natAbs : Int) % 18446744073709551616) : 0 = vIf (a * b) ∧ false = in64 (a * b) := by
  refine vIf_no ?_
  rw [← in64_wrap, in64_iff, mul_diff h]
  have := absmul_nonneg a b
  generalize (a.natAbs : Int) * (b.natAbs : Int) = P at *
  omega
theorem pd2 {a b : Int} (h : (!decide (a < 0) == decide (b < 0)) = true) (h2 : (a.natAbs : Int) * (b.natAbs : Int) / 18446744073709551616 ≤ 0 ∧ (a.natAbs : Int) * (b.natAbs : Int) % 18446744073709551616 ≤ 9223372036854775808) : wrap64 (a * b) = vIf (a * b) ∧ true = in64 (a * b) := by
  refine vIf_yes ?_
  rw [← in64_wrap, in64_iff, mul_diff h]
  have := absmul_nonneg a b
  generalize (a.natAbs : Int) * (b.natAbs : Int) = P at *
  omega
theorem ps1 {a b : Int} (h : (!decide (a < 0) == decide (b < 0)) = false) (h2 : 0 < (a.natAbs : Int) * (b.natAbs : Int) / 18446744073709551616 ∨ 9223372036854775807 < (a.natAbs : Int) * (b.natAbs : Int) % 18446744073709551616) : 0 = vIf (a * b) ∧ false = in64 (a * b) := by
  refine vIf_no ?_
  rw [← in64_wrap, in64_iff, mul_same h]
  have := absmul_nonneg a b
  generalize (a.natAbs : Int) * (b.natAbs : Int) = P at *
  omega
theorem ps2 {a b : Int} (h : (!decide (a < 0) == decide (b < 0)) = false) (h2 : (a.natAbs : Int) * (b.natAbs : Int) / 18446744073709551616 ≤ 0 ∧ (a.natAbs : Int) * (b.natAbs : Int) % 18446744073709551616 ≤ 9223372036854775807) : wrap64 (a * b) = vIf (a * b) ∧ true = in64 (a * b) := by
  refine vIf_yes ?_
  rw [← in64_wrap, in64_iff, mul_same h]
  have := absmul_nonneg a b
  generalize (a.natAbs : Int) * (b.natAbs : Int) = P at *
  omega
theorem below3 (w : World) (o o' o'' : Obj) : Below w.heap.size w (((w.alloc o).alloc o').alloc o'') := (below2 w o o').alloc (by simp; omega) _

set_option maxHeartbeats 400000 in
theorem mul_c (a b : Int) (w : World) (ha1 : -9223372036854775808 ≤ a) (ha2 : a ≤ 9223372036854775807) (hb1 : -9223372036854775808 ≤ b) (hb2 : b ≤ 9223372036854775807) : Calls Try.prog 18 #[.int .i64 a, .int .i64 b] w fun e w' => e = .returned (.tuple #[.int .i64 (vIf (a * b)), .bool (in64 (a * b))]) ∧ Below w.heap.size w w' := by
  go_enter Try.func18, Try.ntmps18
  go_wp2_with (first | (go_at_call 28; refine (mag_c _ _ (by omega) (by omega)).mono ?_; rintro e w' ⟨rfl, rfl⟩) | (go_at_call 27; refine (mul64_c _ _ (by omega) (by omega) _).mono ?_; rintro e w' ⟨rfl, rfl⟩) | go_in)
  · go_ret2
    obtain ⟨e1, e2⟩ := pd1 ‹_› ‹_›
    exact ⟨ret_ib e1 e2, below3 _ _ _ _⟩
  · go_ret2
    obtain ⟨e1, e2⟩ := pd2 ‹_› ‹_›
    exact ⟨ret_ib e1 e2, below3 _ _ _ _⟩
  · go_ret2
    obtain ⟨e1, e2⟩ := pd1 ‹_› (.inl ‹_›)
    exact ⟨ret_ib e1 e2, below3 _ _ _ _⟩
  · go_ret2
    obtain ⟨e1, e2⟩ := ps1 ‹_› ‹_›
    exact ⟨ret_ib e1 e2, below3 _ _ _ _⟩
  · go_ret2
    obtain ⟨e1, e2⟩ := ps2 ‹_› ‹_›
    exact ⟨ret_ib e1 e2, below3 _ _ _ _⟩
  · go_ret2
    obtain ⟨e1, e2⟩ := ps1 ‹_› (.inl ‹_›)
    exact ⟨ret_ib e1 e2, below3 _ _ _ _⟩

end Go.Proofs.Ytoankoongjiegaa
