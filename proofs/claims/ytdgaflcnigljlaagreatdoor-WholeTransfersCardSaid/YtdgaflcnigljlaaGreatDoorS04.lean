/-
  Contracts and plain facts for the laws on the whole program: the parts below say each what they are. No further condition.
-/
import Derived.Test.YtdgaflcnigljlaaGreatDoorS01
import Derived.Test.YtdgaflcnigljlaaGreatDoorS03
import Derived.Test.YtdgaflcnigljlaaGreatDoorWWords
import Derived.LoopTactic
import Derived.Deep.LoopGhost
import Derived.StillTailTactics
/-
  Small facts on blocks of the heap, for the walks of this seat. No further condition.
-/
namespace Go.Proofs.YtdgaflcnigljlaaGreatDoor
open Go.RowKit Go.Proofs.YtdgaflcnigljlaaGreatDoorW.PrintWords
set_option linter.unusedVariables false

/-- Block g holds these cells. -/
def Blk (w : World) (g : Nat) (cs : Array Value) (t : TypeId) : Prop := w.heap[g]? = some (.cells cs t (0, 0))
theorem Blk.lt {w : World} {g : Nat} {cs : Array Value} {t : TypeId} (h : Blk w g cs t) : g < w.heap.size := blk_lt h
theorem Blk.below {w w1 : World} {g : Nat} {cs : Array Value} {t : TypeId} (h : Blk w g cs t) (hb : Below w.heap.size w w1) : Blk w1 g cs t := blk_below h hb
theorem Blk.alloc {w : World} {g : Nat} {cs : Array Value} {t : TypeId} (h : Blk w g cs t) (o : Obj) : Blk (w.alloc o) g cs t := blk_alloc h o
theorem Blk.drewN {w : World} {g : Nat} {cs : Array Value} {t : TypeId} (h : Blk w g cs t) (n : Nat) : Blk (w.drewN n) g cs t := h
theorem Blk.drew {w : World} {g : Nat} {cs : Array Value} {t : TypeId} (h : Blk w g cs t) : Blk w.drew g cs t := h
theorem Blk.far {w : World} {g : Nat} {cs : Array Value} {t : TypeId} (h : Blk w g cs t) {p : Addr} (hp : g ≠ p.block) (u : Value) : Blk (w.setCell p u) g cs t := blk_far h hp u
theorem Blk.put {w : World} {g : Nat} {cs cs' : Array Value} {t : TypeId} (h : Blk w g cs t) (i : Nat) (u : Value) (e : cs.setIfInBounds i u = cs') : Blk (w.setCell ⟨g, i, none⟩ u) g cs' t := blk_put h i u e
theorem Blk.new (w : World) (cs : Array Value) (t : TypeId) : Blk (w.alloc (.cells cs t)) w.heap.size cs t := blk_new w _
theorem Blk.new2 (w : World) (o : Obj) (cs : Array Value) (t : TypeId) : Blk ((w.alloc o).alloc (.cells cs t)) (w.heap.size + 1) cs t := by
  have := Blk.new (w.alloc o) cs t
  rwa [World.size_alloc] at this
theorem Blk.new3 (w : World) (o o' : Obj) (cs : Array Value) (t : TypeId) : Blk (((w.alloc o).alloc o').alloc (.cells cs t)) (w.heap.size + 2) cs t := by
  have := Blk.new2 (w.alloc o) o' cs t
  rwa [World.size_alloc] at this
theorem Blk.cell {w : World} {g : Nat} {cs : Array Value} {t : TypeId} (h : Blk w g cs t) (i : Nat) : w.cell? ⟨g, i, none⟩ = cs[i]? := blk_cell h i
theorem Blk.frozen {w : World} {g : Nat} {cs : Array Value} {t : TypeId} (h : Blk w g cs t) (i : Nat) : w.frozen? ⟨g, i, none⟩ = false := blk_frozen h i
theorem Blk.c1 {w : World} {g : Nat} {a : Value} {t : TypeId} (h : Blk w g #[a] t) : w.cell? ⟨g, 0, none⟩ = some a ∧ w.frozen? ⟨g, 0, none⟩ = false := ⟨h.cell 0, h.frozen 0⟩
theorem Blk.c2 {w : World} {g : Nat} {a b : Value} {t : TypeId} (h : Blk w g #[a, b] t) : (w.cell? ⟨g, 0, none⟩ = some a ∧ w.cell? ⟨g, 1, none⟩ = some b) ∧ w.frozen? ⟨g, 0, none⟩ = false ∧ w.frozen? ⟨g, 1, none⟩ = false := ⟨⟨h.cell 0, h.cell 1⟩, h.frozen 0, h.frozen 1⟩
theorem Blk.c3 {w : World} {g : Nat} {a b c : Value} {t : TypeId} (h : Blk w g #[a, b, c] t) : (w.cell? ⟨g, 0, none⟩ = some a ∧ w.cell? ⟨g, 1, none⟩ = some b ∧ w.cell? ⟨g, 2, none⟩ = some c) ∧ w.frozen? ⟨g, 0, none⟩ = false ∧ w.frozen? ⟨g, 1, none⟩ = false ∧ w.frozen? ⟨g, 2, none⟩ = false :=
  ⟨⟨h.cell 0, h.cell 1, h.cell 2⟩, h.frozen 0, h.frozen 1, h.frozen 2⟩
theorem chain {w w1 w2 : World} (h : Below w.heap.size w w1) (g : Below w1.heap.size w1 w2) : Below w.heap.size w w2 := h.trans (g.mono h.size)
end Go.Proofs.YtdgaflcnigljlaaGreatDoor
/-
  Contracts of the small functions of package gregorian and of its reference: Leap, Length, first, First, inRange, In, for all integers.
-/
namespace Go.Proofs.YtdgaflcnigljlaaGreatDoor
open Go.RowKit
set_option linter.unusedVariables false

theorem spl_pos (n : Int) {b : Int} (hb : 0 < b) : spl n b = true := by simp [spl]; omega
theorem vDiv_pos {n b : Int} (hb : 0 < b) : vDiv n b = n / b := by unfold vDiv; rw [if_pos (spl_pos n hb), Int.fdiv_eq_ediv_of_nonneg _ (by omega)]
theorem vMod_pos {n b : Int} (hb : 0 < b) : vMod n b = n % b := by unfold vMod; rw [if_pos (spl_pos n hb), Int.fmod_eq_emod_of_nonneg _ (by omega)]
theorem tm0 {y k : Int} : (y.tmod k == 0) = decide (y % k = 0) := by
  rw [Bool.eq_iff_iff]
  simp only [beq_iff_eq, decide_eq_true_eq]
  rw [← Int.dvd_iff_tmod_eq_zero, Int.dvd_iff_emod_eq_zero]
theorem tm0n {y k : Int} : (y.tmod k != 0) = !decide (y % k = 0) := by rw [bne, tm0]
theorem vLeap_a {y : Int} (h : ¬ y % 4 = 0) : vLeap y = false := by simp [vLeap, h]
theorem vLeap_b {y : Int} (h : y % 4 = 0) (g : ¬ y % 100 = 0) : vLeap y = true := by simp [vLeap, h, g]
theorem vLeap_c {y : Int} (h : y % 4 = 0) (g : y % 100 = 0) : vLeap y = decide (y % 400 = 0) := by simp [vLeap, h, g]

set_option maxHeartbeats 400000 in
theorem leap_c (y : Int) (w : World) : Calls Tryz.prog 89 #[.int .i64 y] w fun e w' => e = .returned (.bool (vLeap y)) ∧ w = w' := by
  have E := @tm0 y
  have F := @tm0n y
  by_cases h4 : y % 4 = 0
  · have b4 : (y.tmod 4 == 0) = true := by rw [E]; simpa using h4
    by_cases h100 : y % 100 = 0
    · have b100 : (y.tmod 100 != 0) = false := by rw [F]; simpa using h100
      have H := Lib.hid (show (y.tmod 400 == 0) = vLeap y by rw [E, vLeap_c h4 h100])
      clear E F h4 h100
      go_enter Tryz.func89, Tryz.ntmps89
      go_wp2
      go_ret
      exact ⟨ret_bool H.out, rfl⟩
    · have b100 : (y.tmod 100 != 0) = true := by rw [F]; simpa using h100
      have H := Lib.hid (vLeap_b h4 h100)
      clear E F h4 h100
      go_enter Tryz.func89, Tryz.ntmps89
      go_wp2
      go_ret
      exact ⟨ret_bool H.out.symm, rfl⟩
  · have b4 : (y.tmod 4 == 0) = false := by rw [E]; simpa using h4
    have H := Lib.hid (vLeap_a h4)
    clear E F h4
    go_enter Tryz.func89, Tryz.ntmps89
    go_wp2
    go_ret
    exact ⟨ret_bool H.out.symm, rfl⟩

theorem fmod_e (n : Int) {b : Int} (hb : 0 < b) : n.fmod b = n % b := Int.fmod_eq_emod_of_nonneg _ (by omega)
theorem rleap_aux (y : Int) : ((y % 400 == 0) || ((y % 4 == 0) && (y % 100 != 0))) = vLeap y := by
  unfold vLeap
  rw [Bool.eq_iff_iff]
  simp only [Bool.or_eq_true, Bool.and_eq_true, beq_iff_eq, bne_iff_ne, decide_eq_true_eq]
  omega
set_option maxHeartbeats 400000 in
theorem rleap_c (y : Int) (w : World) (h1 : -9223372036854775808 ≤ y) (h2 : y ≤ 9223372036854775807) : Calls Tryz.prog 19 #[.int .i64 y] w fun e w' => e = .returned (.bool (vLeap y)) ∧ w = w' := by
  have R := Lib.hid (rleap_aux y)
  go_enter Tryz.func19, Tryz.ntmps19
  go_wp2_with (go_at_call 42; refine (rmod_c _ _ _ h1 h2 (by omega) (by omega) (spl_pos y (by omega))).mono ?_; rintro e w' ⟨rfl, rfl⟩; rw [fmod_e _ (by omega)])
  all_goals
    go_ret
    refine ⟨ret_bool ?_, rfl⟩
    rw [← R.out]
    simp [*]

set_option maxHeartbeats 400000 in
theorem inrange_c (y : Int) (w : World) : Calls Tryz.prog 94 #[.int .i64 y] w fun e w' => e = .returned (.bool (vIn y)) ∧ w = w' := by
  go_enter Tryz.func94, Tryz.ntmps94
  go_wp2
  all_goals (go_ret; exact ⟨ret_bool (by unfold vIn; rw [Bool.eq_iff_iff]; simp; omega), rfl⟩)

set_option maxHeartbeats 400000 in
theorem in_c (y : Int) (w : World) : Calls Tryz.prog 33 #[.int .i64 y] w fun e w' => e = .returned (.bool (vIn y)) ∧ w = w' := by
  go_enter Tryz.func33, Tryz.ntmps33
  go_wp2
  all_goals (go_ret; exact ⟨ret_bool (by unfold vIn; rw [Bool.eq_iff_iff]; simp; omega), rfl⟩)

set_option maxHeartbeats 1000000 in
theorem length_c (y m : Int) (w : World) : Calls Tryz.prog 137 #[.int .i64 y, .int .i64 m] w fun e w' => e = .returned (.int .i64 (vLen (vLeap y) m)) ∧ w = w' := by
  by_cases h0 : m < 1
  · have HV := Lib.hid (@vLen_out (vLeap y) m (.inl h0))
    go_enter Tryz.func137, Tryz.ntmps137
    go_wp2
    go_ret
    exact ⟨ret_int HV.out.symm, rfl⟩
  by_cases h6 : 12 < m
  · have HV := Lib.hid (@vLen_out (vLeap y) m (.inr h6))
    go_enter Tryz.func137, Tryz.ntmps137
    go_wp2
    go_ret
    exact ⟨ret_int HV.out.symm, rfl⟩
  by_cases h2 : m = 2
  · subst h2
    cases hl : vLeap y
    all_goals
      have HL := Lib.hid hl
      clear hl
      go_enter Tryz.func137, Tryz.ntmps137
      go_wp2_with (go_at_call 89; refine (leap_c _ _).mono ?_; rintro e w' ⟨rfl, rfl⟩; rw [HL.out])
      go_ret
      exact ⟨rfl, rfl⟩
  · rcases twelve (show 1 ≤ m by omega) (by omega) with rfl | rfl | rfl | rfl | rfl | rfl | rfl | rfl | rfl | rfl | rfl | rfl
    case inr.inl => exact absurd rfl h2
    all_goals
      clear h2 h0 h6
      go_enter Tryz.func137, Tryz.ntmps137
      go_wp2
      go_ret
      exact ⟨rfl, rfl⟩

set_option maxHeartbeats 1000000 in
theorem rlength_c (b : Bool) (m : Int) (w : World) : Calls Tryz.prog 35 #[.bool b, .int .i64 m] w fun e w' => e = .returned (.int .i64 (vLen b m)) ∧ w = w' := by
  by_cases h : m < 1 ∨ 12 < m
  · have HV := Lib.hid (@vLen_out b m h)
    have b1 : (m == 1) = false := by simp; omega
    have b2 : (m == 2) = false := by simp; omega
    have b3 : (m == 3) = false := by simp; omega
    have b4 : (m == 4) = false := by simp; omega
    have b5 : (m == 5) = false := by simp; omega
    have b6 : (m == 6) = false := by simp; omega
    have b7 : (m == 7) = false := by simp; omega
    have b8 : (m == 8) = false := by simp; omega
    have b9 : (m == 9) = false := by simp; omega
    have b10 : (m == 10) = false := by simp; omega
    have b11 : (m == 11) = false := by simp; omega
    have b12 : (m == 12) = false := by simp; omega
    clear h
    go_enter Tryz.func35, Tryz.ntmps35
    go_wp2
    go_ret
    exact ⟨ret_int HV.out.symm, rfl⟩
  cases b
  all_goals
    rcases twelve (show 1 ≤ m by omega) (by omega) with rfl | rfl | rfl | rfl | rfl | rfl | rfl | rfl | rfl | rfl | rfl | rfl
    all_goals
      clear h
      go_enter Tryz.func35, Tryz.ntmps35
      go_wp2
      go_ret
      exact ⟨rfl, rfl⟩

set_option maxHeartbeats 400000 in
theorem first_c (y : Int) (w : World) (h1 : 1 ≤ y) (h2 : y ≤ 1000000010) : Calls Tryz.prog 95 #[.int .i64 y] w fun e w' => e = .returned (.int .i64 (vFirst y)) ∧ w = w' := by
  have b1 : 0 ≤ (y - 1) / 4 := by omega
  have b2 : (y - 1) / 4 ≤ 250000003 := by omega
  have b3 : 0 ≤ (y - 1) / 100 := by omega
  have b4 : (y - 1) / 100 ≤ 10000001 := by omega
  have b5 : 0 ≤ (y - 1) / 400 := by omega
  have b6 : (y - 1) / 400 ≤ 2500001 := by omega
  go_enter Tryz.func95, Tryz.ntmps95
  go_wp2
  go_ret
  exact ⟨ret_int (by unfold vFirst; omega), rfl⟩

set_option maxHeartbeats 400000 in
theorem rfirst_c (y : Int) (w : World) (h1 : 1 ≤ y) (h2 : y ≤ 1000000010) : Calls Tryz.prog 11 #[.int .i64 y] w fun e w' => e = .returned (.int .i64 (vFirst y)) ∧ w = w' := by
  have b1 : 0 ≤ (y - 1) / 4 := by omega
  have b2 : (y - 1) / 4 ≤ 250000003 := by omega
  have b3 : 0 ≤ (y - 1) / 100 := by omega
  have b4 : (y - 1) / 100 ≤ 10000001 := by omega
  have b5 : 0 ≤ (y - 1) / 400 := by omega
  have b6 : (y - 1) / 400 ≤ 2500001 := by omega
  go_enter Tryz.func11, Tryz.ntmps11
  go_wp2
  go_ret
  exact ⟨ret_int (by unfold vFirst; omega), rfl⟩

def vFst (y : Int) : Int := if vIn y = true then vFirst y else 0
def vFstE (y : Int) : Int := if vIn y = true then 0 else 1
theorem ret_ii {k : IntKind} {a b c d : Int} (h : a = b) (g : c = d) : Ending.returned (.tuple #[.int k a, .int k c]) = .returned (.tuple #[.int k b, .int k d]) := by rw [h, g]
set_option maxHeartbeats 400000 in
theorem First_c (y : Int) (w : World) : Calls Tryz.prog 60 #[.int .i64 y] w fun e w' => e = .returned (.tuple #[.int .i64 (vFst y), .int .i64 (vFstE y)]) ∧ w = w' := by
  cases h : vIn y
  · have HA := Lib.hid (show vFst y = 0 by unfold vFst; rw [h]; rfl)
    have HE := Lib.hid (show vFstE y = 1 by unfold vFstE; rw [h]; rfl)
    have H := Lib.hid h
    clear h
    go_enter Tryz.func60, Tryz.ntmps60
    go_wp2_with (go_at_call 94; refine (inrange_c _ _).mono ?_; rintro e w' ⟨rfl, rfl⟩; rw [H.out])
    go_ret2
    exact ⟨ret_ii HA.out.symm HE.out.symm, rfl⟩
  · have HA := Lib.hid (show vFst y = vFirst y by unfold vFst; rw [if_pos h])
    have HE := Lib.hid (show vFstE y = 0 by unfold vFstE; rw [if_pos h])
    have H := Lib.hid h
    obtain ⟨y1, y2⟩ := vIn_iff.1 h
    clear h
    go_enter Tryz.func60, Tryz.ntmps60
    go_wp2_with (first | (go_at_call 94; refine (inrange_c _ _).mono ?_; rintro e w' ⟨rfl, rfl⟩; rw [H.out]) | (go_at_call 95; refine (first_c _ _ (by omega) (by omega)).mono ?_; rintro e w' ⟨rfl, rfl⟩))
    go_ret2
    exact ⟨ret_ii HA.out.symm HE.out.symm, rfl⟩
end Go.Proofs.YtdgaflcnigljlaaGreatDoor
/-
  Contracts of weekday's and its reference's Of, OnOrAfter, OnOrBefore and Nth, for all 64-bit integers. No further condition.
-/
namespace Go.Proofs.YtdgaflcnigljlaaGreatDoor
open Go.RowKit
set_option linter.unusedVariables false


theorem mod_cb (a b : Int) (w : World) (ha1 : -9223372036854775808 ≤ a) (ha2 : a ≤ 9223372036854775807) (hb1 : -9223372036854775808 ≤ b) (hb2 : b ≤ 9223372036854775807) : Calls Tryz.prog 135 #[.int .i64 a, .int .i64 b] w fun e w' => e = .returned (.tuple #[.int .i64 (vMod a b), .bool (spl a b)]) ∧ Below w.heap.size w w' := (mod_c a b w ha1 ha2 hb1 hb2).mono fun e w' ⟨a, b⟩ => ⟨a, b.below⟩
theorem vMod7 (n : Int) : vMod n 7 = n % 7 := by
  have h : spl n 7 = true := by simp [spl]
  unfold vMod; rw [if_pos h, Int.fmod_eq_emod_of_nonneg _ (by omega)]
theorem fmod7 (n : Int) : n.fmod 7 = n % 7 := Int.fmod_eq_emod_of_nonneg _ (by omega)
theorem spl7 (n : Int) : spl n 7 = true := by simp [spl]

set_option maxHeartbeats 400000 in
theorem of_c (n : Int) (w : World) (h1 : -9223372036854775808 ≤ n) (h2 : n ≤ 9223372036854775807) : Calls Tryz.prog 96 #[.int .i64 n] w fun e w' => e = .returned (.int .i64 (n % 7)) ∧ Below w.heap.size w w' := by
  go_enter Tryz.func96, Tryz.ntmps96
  go_wp2_with (go_at_call 135; refine (mod_cb _ _ _ h1 h2 (by omega) (by omega)).mono ?_; rintro e w' ⟨rfl, hw⟩; rw [vMod7])
  go_ret
  exact ⟨rfl, hw⟩

set_option maxHeartbeats 400000 in
theorem rof_c (n : Int) (w : World) (h1 : -9223372036854775808 ≤ n) (h2 : n ≤ 9223372036854775807) : Calls Tryz.prog 38 #[.int .i64 n] w fun e w' => e = .returned (.int .i64 (n % 7)) ∧ w = w' := by
  go_enter Tryz.func38, Tryz.ntmps38
  go_wp2_with (go_at_call 42; refine (rmod_c _ _ _ h1 h2 (by omega) (by omega) (spl7 n)).mono ?_; rintro e w' ⟨rfl, rfl⟩; rw [fmod7])
  go_ret
  exact ⟨rfl, rfl⟩

def vErr (n k : Int) : Int := if k < 0 ∨ 6 < k then 3 else if n < -1099511627776 ∨ 1099511627776 < n then 1 else 0
theorem vErr_zero {n k : Int} (h : vErr n k = 0) : 0 ≤ k ∧ k ≤ 6 ∧ -1099511627776 ≤ n ∧ n ≤ 1099511627776 := by
  unfold vErr at h; split at h
  · omega
  · split at h <;> omega

set_option maxHeartbeats 400000 in
theorem check_c (n k : Int) (w : World) : Calls Tryz.prog 182 #[.int .i64 n, .int .i64 k] w fun e w' => e = .returned (.int .i64 (vErr n k)) ∧ w = w' := by
  go_enter Tryz.func182, Tryz.ntmps182
  go_wp2
  all_goals (go_ret; exact ⟨ret_int (by unfold vErr; (repeat split) <;> omega), rfl⟩)

set_option maxHeartbeats 400000 in
theorem fails_c (n k : Int) (w : World) : Calls Tryz.prog 107 #[.int .i64 n, .int .i64 k] w fun e w' => e = .returned (.int .i64 (vErr n k)) ∧ w = w' := by
  go_enter Tryz.func107, Tryz.ntmps107
  go_wp2
  all_goals (go_ret; exact ⟨ret_int (by unfold vErr; (repeat split) <;> omega), rfl⟩)

def vAfter (n k : Int) : Int := if vErr n k = 0 then n + (k - n) % 7 else 0
def vBefore (n k : Int) : Int := if vErr n k = 0 then n - (n - k) % 7 else 0

set_option maxHeartbeats 400000 in
theorem after_c (n k : Int) (w : World) : Calls Tryz.prog 139 #[.int .i64 n, .int .i64 k] w fun e w' => e = .returned (.tuple #[.int .i64 (vAfter n k), .int .i64 (vErr n k)]) ∧ Below w.heap.size w w' := by
  have HB := Below.refl w.heap.size w
  by_cases h : vErr n k = 0
  · obtain ⟨h1, h2, h3, h4⟩ := vErr_zero h
    have H := Lib.hid h
    have h5 : 0 ≤ n % 7 := by omega
    have h6 : n % 7 ≤ 6 := by omega
    have h7 : 0 ≤ (k - n) % 7 := by omega
    have h8 : (k - n) % 7 ≤ 6 := by omega
    clear h
    go_enter Tryz.func139, Tryz.ntmps139
    go_wp2_with (first | (go_at_call 182; refine (check_c _ _ _).mono ?_; rintro e w' ⟨rfl, rfl⟩; rw [H.out]) | (go_at_call 96; refine (of_c _ _ (by omega) (by omega)).mono ?_; rintro e w' ⟨rfl, hw⟩; replace HB := chain HB hw; clear hw))
    go_ret2
    exact ⟨ret_ii (by unfold vAfter; rw [if_pos H.out]) H.out.symm, HB⟩
  · have H := Lib.hid h
    have h0 : (vErr n k != 0) = true := by simpa using h
    generalize hv : vErr n k = v at *
    have HV := Lib.hid hv
    clear h hv
    go_enter Tryz.func139, Tryz.ntmps139
    go_wp2_with (first | (go_at_call 182; refine (check_c _ _ _).mono ?_; rintro e w' ⟨rfl, rfl⟩; rw [HV.out]))
    go_ret2
    exact ⟨ret_ii (by unfold vAfter; rw [HV.out, if_neg H.out]) rfl, HB⟩

set_option maxHeartbeats 400000 in
theorem before_c (n k : Int) (w : World) : Calls Tryz.prog 303 #[.int .i64 n, .int .i64 k] w fun e w' => e = .returned (.tuple #[.int .i64 (vBefore n k), .int .i64 (vErr n k)]) ∧ Below w.heap.size w w' := by
  have HB := Below.refl w.heap.size w
  by_cases h : vErr n k = 0
  · obtain ⟨h1, h2, h3, h4⟩ := vErr_zero h
    have H := Lib.hid h
    have h5 : 0 ≤ n % 7 := by omega
    have h6 : n % 7 ≤ 6 := by omega
    have h7 : 0 ≤ (n - k) % 7 := by omega
    have h8 : (n - k) % 7 ≤ 6 := by omega
    clear h
    go_enter Tryz.func303, Tryz.ntmps303
    go_wp2_with (first | (go_at_call 182; refine (check_c _ _ _).mono ?_; rintro e w' ⟨rfl, rfl⟩; rw [H.out]) | (go_at_call 96; refine (of_c _ _ (by omega) (by omega)).mono ?_; rintro e w' ⟨rfl, hw⟩; replace HB := chain HB hw; clear hw))
    go_ret2
    exact ⟨ret_ii (by unfold vBefore; rw [if_pos H.out]) H.out.symm, HB⟩
  · have H := Lib.hid h
    have h0 : (vErr n k != 0) = true := by simpa using h
    generalize hv : vErr n k = v at *
    have HV := Lib.hid hv
    clear h hv
    go_enter Tryz.func303, Tryz.ntmps303
    go_wp2_with (first | (go_at_call 182; refine (check_c _ _ _).mono ?_; rintro e w' ⟨rfl, rfl⟩; rw [HV.out]))
    go_ret2
    exact ⟨ret_ii (by unfold vBefore; rw [HV.out, if_neg H.out]) rfl, HB⟩

set_option maxHeartbeats 400000 in
theorem rafter_c (n k : Int) (w : World) : Calls Tryz.prog 71 #[.int .i64 n, .int .i64 k] w fun e w' => e = .returned (.tuple #[.int .i64 (vAfter n k), .int .i64 (vErr n k)]) ∧ w = w' := by
  by_cases h : vErr n k = 0
  · obtain ⟨h1, h2, h3, h4⟩ := vErr_zero h
    have H := Lib.hid h
    have HR := Lib.hid (show vAfter n k = n + (k - n) % 7 by unfold vAfter; rw [if_pos h])
    clear h
    go_enter Tryz.func71, Tryz.ntmps71
    go_wp2_with (go_at_call 107; refine (fails_c _ _ _).mono ?_; rintro e w' ⟨rfl, rfl⟩; rw [H.out])
    go_loop [0] (fun t => ∃ m : Int, n ≤ m ∧ m ≤ n + (k - n) % 7 ∧ t = .int .i64 m) (fun t => (n + 7 - intOf t).toNat)
    case atStart => exact ⟨n, by omega, by omega, rfl⟩
    case round =>
      obtain ⟨m, hm1, hm2, rfl⟩ := hrel
      by_cases hc : m % 7 = k
      · have hb : (m % 7 != k) = false := by simpa using hc
        have e : n + (k - n) % 7 = m := by omega
        have E := Lib.hid e
        have hm3 : m ≤ n + 6 := by omega
        clear hc e
        go_wp2_with (go_at_call 38; refine (rof_c _ _ (by omega) (by omega)).mono ?_; rintro e w' ⟨rfl, rfl⟩)
        go_ret2
        exact ⟨ret_ii (by rw [HR.out, E.out]) H.out.symm, rfl⟩
      · have hb : (m % 7 != k) = true := by simpa using hc
        have e : m + 1 ≤ n + (k - n) % 7 := by omega
        have E := Lib.hid e
        have hm3 : m ≤ n + 6 := by omega
        clear hc e
        go_wp2_with (go_at_call 38; refine (rof_c _ _ (by omega) (by omega)).mono ?_; rintro e w' ⟨rfl, rfl⟩)
        go_round
        case rel => exact ⟨m + 1, by omega, E.out, rfl⟩
        case measure => simp [intOf]; omega
  · have H := Lib.hid h
    have h0 : (vErr n k != 0) = true := by simpa using h
    generalize hv : vErr n k = v at *
    have HV := Lib.hid hv
    clear h hv
    go_enter Tryz.func71, Tryz.ntmps71
    go_wp2_with (first | (go_at_call 107; refine (fails_c _ _ _).mono ?_; rintro e w' ⟨rfl, rfl⟩; rw [HV.out]))
    go_ret2
    exact ⟨ret_ii (by unfold vAfter; rw [HV.out, if_neg H.out]) rfl, rfl⟩

set_option maxHeartbeats 400000 in
theorem rbefore_c (n k : Int) (w : World) : Calls Tryz.prog 72 #[.int .i64 n, .int .i64 k] w fun e w' => e = .returned (.tuple #[.int .i64 (vBefore n k), .int .i64 (vErr n k)]) ∧ w = w' := by
  by_cases h : vErr n k = 0
  · obtain ⟨h1, h2, h3, h4⟩ := vErr_zero h
    have H := Lib.hid h
    have HR := Lib.hid (show vBefore n k = n - (n - k) % 7 by unfold vBefore; rw [if_pos h])
    clear h
    go_enter Tryz.func72, Tryz.ntmps72
    go_wp2_with (go_at_call 107; refine (fails_c _ _ _).mono ?_; rintro e w' ⟨rfl, rfl⟩; rw [H.out])
    go_loop [0] (fun t => ∃ m : Int, m ≤ n ∧ n - (n - k) % 7 ≤ m ∧ t = .int .i64 m) (fun t => (intOf t - (n - 7)).toNat)
    case atStart => exact ⟨n, by omega, by omega, rfl⟩
    case round =>
      obtain ⟨m, hm1, hm2, rfl⟩ := hrel
      by_cases hc : m % 7 = k
      · have hb : (m % 7 != k) = false := by simpa using hc
        have e : n - (n - k) % 7 = m := by omega
        have E := Lib.hid e
        have hm3 : n - 6 ≤ m := by omega
        clear hc e
        go_wp2_with (go_at_call 38; refine (rof_c _ _ (by omega) (by omega)).mono ?_; rintro e w' ⟨rfl, rfl⟩)
        go_ret2
        exact ⟨ret_ii (by rw [HR.out, E.out]) H.out.symm, rfl⟩
      · have hb : (m % 7 != k) = true := by simpa using hc
        have e : n - (n - k) % 7 ≤ m - 1 := by omega
        have E := Lib.hid e
        have hm3 : n - 6 ≤ m := by omega
        clear hc e
        go_wp2_with (go_at_call 38; refine (rof_c _ _ (by omega) (by omega)).mono ?_; rintro e w' ⟨rfl, rfl⟩)
        go_round
        case rel => exact ⟨m - 1, by omega, E.out, rfl⟩
        case measure => simp [intOf]; omega
  · have H := Lib.hid h
    have h0 : (vErr n k != 0) = true := by simpa using h
    generalize hv : vErr n k = v at *
    have HV := Lib.hid hv
    clear h hv
    go_enter Tryz.func72, Tryz.ntmps72
    go_wp2_with (first | (go_at_call 107; refine (fails_c _ _ _).mono ?_; rintro e w' ⟨rfl, rfl⟩; rw [HV.out]))
    go_ret2
    exact ⟨ret_ii (by unfold vBefore; rw [HV.out, if_neg H.out]) rfl, rfl⟩

def vNthE (n k c : Int) : Int := if k < 0 ∨ 6 < k ∨ c = 0 ∨ c < -1000 ∨ 1000 < c then 3 else vErr n k
def vNth (n k c : Int) : Int := if vNthE n k c = 0 then (if 0 < c then vAfter n k + 7 * (c - 1) else vBefore n k + 7 * (c + 1)) else 0
theorem vErr_bad {n k : Int} (h : k < 0 ∨ 6 < k) : vErr n k = 3 := by unfold vErr; rw [if_pos h]
theorem vNth_bad {n k c : Int} (h : k < 0 ∨ 6 < k ∨ c = 0 ∨ c < -1000 ∨ 1000 < c) : vNthE n k c = 3 ∧ vNth n k c = 0 := by
  have e : vNthE n k c = 3 := by unfold vNthE; rw [if_pos h]
  unfold vNth; rw [e]; exact ⟨rfl, rfl⟩
theorem vNth_err {n k c : Int} (h : ¬ (k < 0 ∨ 6 < k ∨ c = 0 ∨ c < -1000 ∨ 1000 < c)) : vNthE n k c = vErr n k := by unfold vNthE; rw [if_neg h]
theorem vNth_zero {n k c : Int} (h : ¬ (k < 0 ∨ 6 < k ∨ c = 0 ∨ c < -1000 ∨ 1000 < c)) (he : ¬ vErr n k = 0) : vNth n k c = 0 := by unfold vNth; rw [vNth_err h, if_neg he]
theorem vNth_pos {n k c : Int} (h : ¬ (k < 0 ∨ 6 < k ∨ c = 0 ∨ c < -1000 ∨ 1000 < c)) (he : vErr n k = 0) (hc : 0 < c) : vNth n k c = vAfter n k + 7 * (c - 1) := by unfold vNth; rw [vNth_err h, if_pos he, if_pos hc]
theorem vNth_neg {n k c : Int} (h : ¬ (k < 0 ∨ 6 < k ∨ c = 0 ∨ c < -1000 ∨ 1000 < c)) (he : vErr n k = 0) (hc : ¬ 0 < c) : vNth n k c = vBefore n k + 7 * (c + 1) := by unfold vNth; rw [vNth_err h, if_pos he, if_neg hc]
theorem vAfter_zero {n k : Int} (he : ¬ vErr n k = 0) : vAfter n k = 0 := by unfold vAfter; rw [if_neg he]
theorem vBefore_zero {n k : Int} (he : ¬ vErr n k = 0) : vBefore n k = 0 := by unfold vBefore; rw [if_neg he]
theorem vAfter_in {n k : Int} (he : vErr n k = 0) : n ≤ vAfter n k ∧ vAfter n k ≤ n + 6 := by unfold vAfter; rw [if_pos he]; omega
theorem vBefore_in {n k : Int} (he : vErr n k = 0) : n - 6 ≤ vBefore n k ∧ vBefore n k ≤ n := by unfold vBefore; rw [if_pos he]; omega

set_option maxHeartbeats 400000 in
theorem nth_bad1 (n k c : Int) (w : World) (h : k < 0 ∨ 6 < k) : Calls Tryz.prog 302 #[.int .i64 n, .int .i64 k, .int .i64 c] w fun e w' => e = .returned (.tuple #[.int .i64 0, .int .i64 3]) ∧ Below w.heap.size w w' := by
  have HB := Below.refl w.heap.size w
  have HE := Lib.hid (vErr_bad (n := n) h)
  have HA := Lib.hid (vAfter_zero (n := n) (k := k) (by rw [HE.out]; omega))
  have HC := Lib.hid (vBefore_zero (n := n) (k := k) (by rw [HE.out]; omega))
  rcases h with h | h
  · by_cases hc : 0 < c
    all_goals
      go_enter Tryz.func302, Tryz.ntmps302
      go_wp2_with (first | (go_at_call 139; refine (after_c _ _ _).mono ?_; rintro e w' ⟨rfl, hw⟩; replace HB := chain HB hw; clear hw; rw [HE.out, HA.out]) | (go_at_call 303; refine (before_c _ _ _).mono ?_; rintro e w' ⟨rfl, hw⟩; replace HB := chain HB hw; clear hw; rw [HE.out, HC.out]))
      go_ret2
      exact ⟨rfl, HB⟩
  · by_cases hc : 0 < c
    all_goals
      go_enter Tryz.func302, Tryz.ntmps302
      go_wp2_with (first | (go_at_call 139; refine (after_c _ _ _).mono ?_; rintro e w' ⟨rfl, hw⟩; replace HB := chain HB hw; clear hw; rw [HE.out, HA.out]) | (go_at_call 303; refine (before_c _ _ _).mono ?_; rintro e w' ⟨rfl, hw⟩; replace HB := chain HB hw; clear hw; rw [HE.out, HC.out]))
      go_ret2
      exact ⟨rfl, HB⟩

set_option maxHeartbeats 400000 in
theorem nth_bad2 (n k c : Int) (w : World) (h0 : 0 ≤ k) (h1 : k ≤ 6) (h : c = 0 ∨ c < -1000 ∨ 1000 < c) : Calls Tryz.prog 302 #[.int .i64 n, .int .i64 k, .int .i64 c] w fun e w' => e = .returned (.tuple #[.int .i64 0, .int .i64 3]) ∧ Below w.heap.size w w' := by
  have HB := Below.refl w.heap.size w
  rcases h with h | h | h
  · have h2 : (c == 0) = true := by simpa using h
    clear h
    go_enter Tryz.func302, Tryz.ntmps302
    go_wp2_with fail
    go_ret2
    exact ⟨rfl, HB⟩
  · have h2 : (c == 0) = false := by simp; omega
    go_enter Tryz.func302, Tryz.ntmps302
    go_wp2_with fail
    go_ret2
    exact ⟨rfl, HB⟩
  · have h2 : (c == 0) = false := by simp; omega
    go_enter Tryz.func302, Tryz.ntmps302
    go_wp2_with fail
    go_ret2
    exact ⟨rfl, HB⟩

set_option maxHeartbeats 400000 in
theorem nth_good (n k c : Int) (w : World) (h : ¬ (k < 0 ∨ 6 < k ∨ c = 0 ∨ c < -1000 ∨ 1000 < c)) : Calls Tryz.prog 302 #[.int .i64 n, .int .i64 k, .int .i64 c] w fun e w' => e = .returned (.tuple #[.int .i64 (vNth n k c), .int .i64 (vNthE n k c)]) ∧ Below w.heap.size w w' := by
  have HB := Below.refl w.heap.size w
  have HF := Lib.hid (vNth_err (n := n) h)
  have h0 : 0 ≤ k := by omega
  have h1 : k ≤ 6 := by omega
  have h2 : (c == 0) = false := by simp; omega
  have h3 : -1000 ≤ c := by omega
  have h4 : c ≤ 1000 := by omega
  by_cases he : vErr n k = 0
  · obtain ⟨_, _, h5, h6⟩ := vErr_zero he
    by_cases hc : 0 < c
    · obtain ⟨h7, h8⟩ := vAfter_in he
      have HV := Lib.hid (vNth_pos h he hc)
      have HE := Lib.hid he
      clear he h
      go_enter Tryz.func302, Tryz.ntmps302
      go_wp2_with (first | (go_at_call 139; refine (after_c _ _ _).mono ?_; rintro e w' ⟨rfl, hw⟩; replace HB := chain HB hw; clear hw; rw [HE.out]))
      go_ret2
      exact ⟨ret_ii HV.out.symm (by rw [HF.out, HE.out]), HB⟩
    · obtain ⟨h7, h8⟩ := vBefore_in he
      have HV := Lib.hid (vNth_neg h he hc)
      have HE := Lib.hid he
      clear he h
      go_enter Tryz.func302, Tryz.ntmps302
      go_wp2_with (first | (go_at_call 303; refine (before_c _ _ _).mono ?_; rintro e w' ⟨rfl, hw⟩; replace HB := chain HB hw; clear hw; rw [HE.out]))
      go_ret2
      exact ⟨ret_ii HV.out.symm (by rw [HF.out, HE.out]), HB⟩
  · have HV := Lib.hid (vNth_zero h he)
    have HA := Lib.hid (vAfter_zero he)
    have HC := Lib.hid (vBefore_zero he)
    have hb : (vErr n k != 0) = true := by simpa using he
    clear he h
    by_cases hc : 0 < c
    all_goals
      go_enter Tryz.func302, Tryz.ntmps302
      go_wp2_with (first | (go_at_call 139; refine (after_c _ _ _).mono ?_; rintro e w' ⟨rfl, hw⟩; replace HB := chain HB hw; clear hw; rw [HA.out]) | (go_at_call 303; refine (before_c _ _ _).mono ?_; rintro e w' ⟨rfl, hw⟩; replace HB := chain HB hw; clear hw; rw [HC.out]))
      go_ret2
      exact ⟨ret_ii HV.out.symm HF.out.symm, HB⟩

theorem nth_c (n k c : Int) (w : World) : Calls Tryz.prog 302 #[.int .i64 n, .int .i64 k, .int .i64 c] w fun e w' => e = .returned (.tuple #[.int .i64 (vNth n k c), .int .i64 (vNthE n k c)]) ∧ Below w.heap.size w w' := by
  by_cases h : k < 0 ∨ 6 < k ∨ c = 0 ∨ c < -1000 ∨ 1000 < c
  · obtain ⟨e1, e2⟩ := vNth_bad (n := n) h
    rw [e1, e2]
    by_cases hk : k < 0 ∨ 6 < k
    · exact nth_bad1 n k c w hk
    · exact nth_bad2 n k c w (by omega) (by omega) (by omega)
  · exact nth_good n k c w h

set_option maxHeartbeats 400000 in
theorem rnth_bad (n k c : Int) (w : World) (h : k < 0 ∨ 6 < k ∨ c = 0 ∨ c < -1000 ∨ 1000 < c) : Calls Tryz.prog 48 #[.int .i64 n, .int .i64 k, .int .i64 c] w fun e w' => e = .returned (.tuple #[.int .i64 0, .int .i64 3]) ∧ w = w' := by
  by_cases h1 : k < 0
  · go_enter Tryz.func48, Tryz.ntmps48
    go_wp2_with fail
    go_ret2
    exact ⟨rfl, rfl⟩
  by_cases h2 : 6 < k
  · go_enter Tryz.func48, Tryz.ntmps48
    go_wp2_with fail
    go_ret2
    exact ⟨rfl, rfl⟩
  by_cases h3 : c = 0
  · subst h3
    go_enter Tryz.func48, Tryz.ntmps48
    go_wp2_with fail
    go_ret2
    exact ⟨rfl, rfl⟩
  have h3' : (c == 0) = false := by simpa using h3
  by_cases h4 : c < -1000
  · clear h h3
    go_enter Tryz.func48, Tryz.ntmps48
    go_wp2_with fail
    go_ret2
    exact ⟨rfl, rfl⟩
  have h5 : 1000 < c := by omega
  clear h h3
  go_enter Tryz.func48, Tryz.ntmps48
  go_wp2_with fail
  go_ret2
  exact ⟨rfl, rfl⟩

set_option maxHeartbeats 400000 in
theorem rnth_pos (n k c : Int) (w : World) (h0 : 0 ≤ k) (h1 : k ≤ 6) (hc : 0 < c) (h4 : c ≤ 1000) (h2 : (c == 0) = false) : Calls Tryz.prog 48 #[.int .i64 n, .int .i64 k, .int .i64 c] w fun e w' => e = .returned (.tuple #[.int .i64 (vNth n k c), .int .i64 (vErr n k)]) ∧ w = w' := by
  have hg : ¬ (k < 0 ∨ 6 < k ∨ c = 0 ∨ c < -1000 ∨ 1000 < c) := by simp at h2; omega
  by_cases he : vErr n k = 0
  · obtain ⟨_, _, h5, h6⟩ := vErr_zero he
    obtain ⟨h7, h8⟩ := vAfter_in he
    have HV := Lib.hid (vNth_pos hg he hc)
    have HE := Lib.hid he
    clear he hg
    go_enter Tryz.func48, Tryz.ntmps48
    go_wp2_with (first | (go_at_call 71; refine (rafter_c _ _ _).mono ?_; rintro e w' ⟨rfl, rfl⟩; rw [HE.out]))
    go_loop [8, 10] (fun d i => ∃ m : Int, 1 ≤ m ∧ m ≤ c ∧ i = .int .i64 m ∧ d = .int .i64 (vAfter n k + 7 * (m - 1))) (fun _ i => (c - intOf i).toNat)
    case atStart => exact ⟨1, by omega, by omega, rfl, by simp⟩
    case round =>
      obtain ⟨m, hm1, hm2, rfl, rfl⟩ := hrel
      by_cases hmc : m < c
      · go_wp2_with fail
        go_round
        case rel => exact ⟨m + 1, by omega, by omega, rfl, by go_num⟩
        case measure => simp [intOf]; omega
      · obtain rfl : m = c := by omega
        go_wp2_with fail
        go_ret2
        exact ⟨ret_ii HV.out.symm HE.out.symm, rfl⟩
  · have HV := Lib.hid (vNth_zero hg he)
    have HA := Lib.hid (vAfter_zero he)
    have hb : (vErr n k == 0) = false := by simpa using he
    clear he hg
    go_enter Tryz.func48, Tryz.ntmps48
    go_wp2_with (first | (go_at_call 71; refine (rafter_c _ _ _).mono ?_; rintro e w' ⟨rfl, rfl⟩; rw [HA.out]))
    go_loop [8, 10] (fun d i => i = .int .i64 1 ∧ d = .int .i64 0) (fun _ i => 0)
    case atStart => exact ⟨rfl, rfl⟩
    case round =>
      obtain ⟨rfl, rfl⟩ := hrel
      by_cases hmc : 1 < c
      all_goals
        go_wp2_with fail
        go_ret2
        exact ⟨ret_ii HV.out.symm rfl, rfl⟩

set_option maxHeartbeats 400000 in
theorem rnth_neg (n k c : Int) (w : World) (h0 : 0 ≤ k) (h1 : k ≤ 6) (hc : c < 0) (h4 : -1000 ≤ c) (h2 : (c == 0) = false) : Calls Tryz.prog 48 #[.int .i64 n, .int .i64 k, .int .i64 c] w fun e w' => e = .returned (.tuple #[.int .i64 (vNth n k c), .int .i64 (vErr n k)]) ∧ w = w' := by
  have hg : ¬ (k < 0 ∨ 6 < k ∨ c = 0 ∨ c < -1000 ∨ 1000 < c) := by simp at h2; omega
  by_cases he : vErr n k = 0
  · obtain ⟨_, _, h5, h6⟩ := vErr_zero he
    obtain ⟨h7, h8⟩ := vBefore_in he
    have HV := Lib.hid (vNth_neg hg he (by omega))
    have HE := Lib.hid he
    clear he hg
    go_enter Tryz.func48, Tryz.ntmps48
    go_wp2_with (first | (go_at_call 72; refine (rbefore_c _ _ _).mono ?_; rintro e w' ⟨rfl, rfl⟩; rw [HE.out]))
    go_loop [11, 13] (fun d i => ∃ m : Int, c ≤ m ∧ m ≤ -1 ∧ i = .int .i64 m ∧ d = .int .i64 (vBefore n k + 7 * (m + 1))) (fun _ i => (intOf i - c).toNat)
    case atStart => exact ⟨-1, by omega, by omega, rfl, by simp⟩
    case round =>
      obtain ⟨m, hm1, hm2, rfl, rfl⟩ := hrel
      by_cases hmc : c < m
      · go_wp2_with fail
        go_round
        case rel => exact ⟨m - 1, by omega, by omega, rfl, by go_num⟩
        case measure => simp [intOf]; omega
      · obtain rfl : m = c := by omega
        go_wp2_with fail
        go_ret2
        exact ⟨ret_ii HV.out.symm HE.out.symm, rfl⟩
  · have HV := Lib.hid (vNth_zero hg he)
    have HA := Lib.hid (vBefore_zero he)
    have hb : (vErr n k == 0) = false := by simpa using he
    clear he hg
    go_enter Tryz.func48, Tryz.ntmps48
    go_wp2_with (first | (go_at_call 72; refine (rbefore_c _ _ _).mono ?_; rintro e w' ⟨rfl, rfl⟩; rw [HA.out]))
    go_loop [11, 13] (fun d i => i = .int .i64 (-1) ∧ d = .int .i64 0) (fun _ i => 0)
    case atStart => exact ⟨rfl, rfl⟩
    case round =>
      obtain ⟨rfl, rfl⟩ := hrel
      by_cases hmc : c < -1
      all_goals
        go_wp2_with fail
        go_ret2
        exact ⟨ret_ii HV.out.symm rfl, rfl⟩

theorem rnth_c (n k c : Int) (w : World) : Calls Tryz.prog 48 #[.int .i64 n, .int .i64 k, .int .i64 c] w fun e w' => e = .returned (.tuple #[.int .i64 (vNth n k c), .int .i64 (vNthE n k c)]) ∧ w = w' := by
  by_cases h : k < 0 ∨ 6 < k ∨ c = 0 ∨ c < -1000 ∨ 1000 < c
  · obtain ⟨e1, e2⟩ := vNth_bad (n := n) h
    rw [e1, e2]
    exact rnth_bad n k c w h
  · rw [vNth_err h]
    have h2 : (c == 0) = false := by simp; omega
    by_cases hc : 0 < c
    · exact rnth_pos n k c w (by omega) (by omega) hc (by omega) h2
    · exact rnth_neg n k c w (by omega) (by omega) (by omega) (by omega) h2
end Go.Proofs.YtdgaflcnigljlaaGreatDoor
/-
  Contracts of Valid and ToDay, of the program and of the reference, for all dates.
-/
namespace Go.Proofs.YtdgaflcnigljlaaGreatDoor
open Go.RowKit
set_option linter.unusedVariables false
theorem flip {P : Program} {f : FuncId} {args : Array Value} {w : World} {v : Value} (h : Calls P f args w fun e w' => e = .returned v ∧ w = w') : Calls P f args w fun e w' => e = .returned v ∧ w' = w := h.mono fun _ _ ⟨a, b⟩ => ⟨a, b.symm⟩
theorem vValid_no1 {y m d : Int} (h : vIn y = false) : vValid y m d = false := by simp [vValid, h]
theorem vValid_no2 {y m d : Int} (h : d < 1) : vValid y m d = false := by simp [vValid]; omega
theorem vValid_at {y m d : Int} (h : vIn y = true) (g : 1 ≤ d) : vValid y m d = decide (d ≤ vLen (vLeap y) m) := by simp [vValid, h, g]

set_option maxHeartbeats 400000 in
theorem valid_c (y m d : Int) (w : World) : Calls Tryz.prog 207 #[.agg #[.int .i64 y, .int .i64 m, .int .i64 d]] w fun e w' => e = .returned (.bool (vValid y m d)) ∧ Below w.heap.size w w' := by
  cases hy : vIn y
  · have HV := Lib.hid (vValid_no1 (m := m) (d := d) hy)
    have HY := Lib.hid hy
    clear hy
    go_enter Tryz.func207, Tryz.ntmps207
    go_wp2_with fail
    go_quiet ((go_at_call 94; exact Calls.quiet_of_same (HY.out ▸ flip (inrange_c _ _))))
    go_wp2_with fail
    go_ret
    exact ⟨ret_bool HV.out.symm, below_drewN ((Below.refl _ _).alloc (Nat.le_refl _) _) _⟩
  · have HY := Lib.hid hy
    by_cases hd : 1 ≤ d
    · have HV := Lib.hid (vValid_at (m := m) hy hd)
      clear hy
      go_enter Tryz.func207, Tryz.ntmps207
      go_wp2_with fail
      go_quiet (first | (go_at_call 94; exact Calls.quiet_of_same (HY.out ▸ flip (inrange_c _ _))) | (go_at_call 137; exact Calls.quiet_of_same (flip (length_c _ _ _))))
      go_wp2_with fail
      go_ret
      exact ⟨ret_bool HV.out.symm, below_drewN ((Below.refl _ _).alloc (Nat.le_refl _) _) _⟩
    · have HV := Lib.hid (vValid_no2 (y := y) (m := m) (d := d) (by omega))
      have hb : decide (1 ≤ d) = false := by simpa using hd
      clear hy
      go_enter Tryz.func207, Tryz.ntmps207
      go_wp2_with fail
      go_quiet ((go_at_call 94; exact Calls.quiet_of_same (HY.out ▸ flip (inrange_c _ _))))
      go_wp2_with fail
      go_ret
      exact ⟨ret_bool HV.out.symm, below_drewN ((Below.refl _ _).alloc (Nat.le_refl _) _) _⟩

set_option maxHeartbeats 400000 in
theorem rvalid_c (y m d : Int) (w : World) : Calls Tryz.prog 34 #[.agg #[.int .i64 y, .int .i64 m, .int .i64 d]] w fun e w' => e = .returned (.bool (vValid y m d)) ∧ Below w.heap.size w w' := by
  cases hy : vIn y
  · have HV := Lib.hid (vValid_no1 (m := m) (d := d) hy)
    have HY := Lib.hid hy
    clear hy
    go_enter Tryz.func34, Tryz.ntmps34
    go_wp2_with fail
    go_quiet ((go_at_call 33; exact Calls.quiet_of_same (HY.out ▸ flip (in_c _ _))))
    go_wp2_with fail
    go_ret
    exact ⟨ret_bool HV.out.symm, below_drewN ((Below.refl _ _).alloc (Nat.le_refl _) _) _⟩
  · have HY := Lib.hid hy
    obtain ⟨y1, y2⟩ := vIn_iff.1 hy
    by_cases hd : 1 ≤ d
    · have HV := Lib.hid (vValid_at (m := m) hy hd)
      clear hy
      go_enter Tryz.func34, Tryz.ntmps34
      go_wp2_with fail
      go_quiet (first | (go_at_call 33; exact Calls.quiet_of_same (HY.out ▸ flip (in_c _ _))) | (go_at_call 19; exact Calls.quiet_of_same (flip (rleap_c _ _ (by omega) (by omega)))) | (go_at_call 35; exact Calls.quiet_of_same (flip (rlength_c _ _ _))))
      go_wp2_with fail
      go_ret
      exact ⟨ret_bool HV.out.symm, below_drewN ((Below.refl _ _).alloc (Nat.le_refl _) _) _⟩
    · have HV := Lib.hid (vValid_no2 (y := y) (m := m) (d := d) (by omega))
      have hb : decide (1 ≤ d) = false := by simpa using hd
      clear hy
      go_enter Tryz.func34, Tryz.ntmps34
      go_wp2_with fail
      go_quiet ((go_at_call 33; exact Calls.quiet_of_same (HY.out ▸ flip (in_c _ _))))
      go_wp2_with fail
      go_ret
      exact ⟨ret_bool HV.out.symm, below_drewN ((Below.refl _ _).alloc (Nat.le_refl _) _) _⟩

theorem vTo_out {y m d : Int} (h : vIn y = false) : vToN y m d = 0 ∧ vToE y m d = 1 := by
  unfold vToN vToE; rw [vValid_no1 h, h]; exact ⟨rfl, rfl⟩
theorem vTo_bad {y m d : Int} (h : vIn y = true) (g : vValid y m d = false) : vToN y m d = 0 ∧ vToE y m d = 2 := by
  unfold vToN vToE; rw [g, h]; exact ⟨rfl, rfl⟩
theorem vTo_ok {y m d : Int} (g : vValid y m d = true) : vToN y m d = vTo y m d ∧ vToE y m d = 0 := by
  have h : vIn y = true := by rw [vIn_iff]; exact (vValid_iff.1 g).1
  unfold vToN vToE; rw [g, h]; exact ⟨rfl, rfl⟩
/-- the three cells of a date that a call has boxed, in a later world -/
theorem boxed {w w1 : World} {y m d : Int} {t : TypeId} (hb : Below (w.heap.size + 1) (w.alloc (.cells #[.int .i64 y, .int .i64 m, .int .i64 d] t)) w1) :
    w1.cell? ⟨w.heap.size, 0, none⟩ = some (.int .i64 y) ∧ w1.cell? ⟨w.heap.size, 1, none⟩ = some (.int .i64 m) ∧ w1.cell? ⟨w.heap.size, 2, none⟩ = some (.int .i64 d) := by
  refine ⟨?_, ?_, ?_⟩
  all_goals (rw [hb.cell (by simp)]; simp [go_sem])

set_option maxHeartbeats 400000 in
theorem to_no (y m d : Int) (w : World) (h : vValid y m d = false) : Calls Tryz.prog 177 #[.agg #[.int .i64 y, .int .i64 m, .int .i64 d]] w fun e w' => e = .returned (.tuple #[.int .i64 (vToN y m d), .int .i64 (vToE y m d)]) ∧ Below w.heap.size w w' := by
  cases hy : vIn y
  · obtain ⟨e1, e2⟩ := vTo_out (m := m) (d := d) hy
    have E1 := Lib.hid e1
    have E2 := Lib.hid e2
    have HY := Lib.hid hy
    clear hy e1 e2 h
    go_enter Tryz.func177, Tryz.ntmps177
    go_wp2_with (go_at_call 94; refine (inrange_c _ _).mono ?_; rintro e w' ⟨rfl, rfl⟩; rw [HY.out])
    go_ret2
    exact ⟨ret_ii E1.out.symm E2.out.symm, (Below.refl _ _).alloc (Nat.le_refl _) _⟩
  · obtain ⟨e1, e2⟩ := vTo_bad hy h
    have E1 := Lib.hid e1
    have E2 := Lib.hid e2
    have HY := Lib.hid hy
    have HV := Lib.hid h
    clear hy e1 e2 h
    go_enter Tryz.func177, Tryz.ntmps177
    go_wp2_with (first | (go_at_call 94; refine (inrange_c _ _).mono ?_; rintro e w' ⟨rfl, rfl⟩; rw [HY.out]) | (go_at_call 207; refine (valid_c _ _ _ _).mono ?_; rintro e w1 ⟨rfl, hw⟩; rw [HV.out]))
    go_ret2
    exact ⟨ret_ii E1.out.symm E2.out.symm, ((Below.refl _ _).alloc (Nat.le_refl _) _).trans (hw.mono (by simp))⟩

set_option maxHeartbeats 400000 in
theorem to_yes (y m d : Int) (w : World) (h : vValid y m d = true) : Calls Tryz.prog 177 #[.agg #[.int .i64 y, .int .i64 m, .int .i64 d]] w fun e w' => e = .returned (.tuple #[.int .i64 (vToN y m d), .int .i64 (vToE y m d)]) ∧ Below w.heap.size w w' := by
  obtain ⟨e1, e2⟩ := vTo_ok h
  obtain ⟨m1, m2⟩ := vValid_month h
  obtain ⟨⟨y1, y2⟩, d1, d2⟩ := vValid_iff.1 h
  have HY := Lib.hid (vIn_iff.2 ⟨y1, y2⟩)
  obtain ⟨f1, f2⟩ := vFirst_bd y1 (by omega)
  have d3 : d ≤ 31 := by have := vLen_le (vLeap y) m; omega
  have E1 := Lib.hid e1
  have E2 := Lib.hid e2
  have HV := Lib.hid h
  have HL := fun k => vLen_le (vLeap y) k
  have HC := fun k => @vCum_le (vLeap y) k
  have HS := fun k => @vCum_succ (vLeap y) k
  have L := Lib.hid HL
  have C := Lib.hid HC
  have S := Lib.hid HS
  have P := lp01 (vLeap y)
  clear e1 e2 h HL HC HS d2
  go_enter Tryz.func177, Tryz.ntmps177
  go_wp2_with (first | (go_at_call 94; refine (inrange_c _ _).mono ?_; rintro e w' ⟨rfl, rfl⟩; rw [HY.out]) | (go_at_call 207; refine (valid_c _ _ _ _).mono ?_; rintro e w1 ⟨rfl, hw⟩; rw [HV.out]; obtain ⟨c0, c1, c2⟩ := boxed (hw.mono (by simp))))
  have HB : Below w.heap.size w w1 := ((Below.refl _ _).alloc (Nat.le_refl _) _).trans (hw.mono (by simp))
  clear hw
  go_quiet ((go_at_call 95; exact Calls.quiet_of_same (flip (first_c _ _ (by omega) (by omega)))))
  go_wp2_with fail
  go_loop [4, 5] (fun t i => ∃ k : Int, 1 ≤ k ∧ k ≤ m ∧ i = .int .i64 k ∧ t = .int .i64 (vFirst y + d - 1 + vCum (vLeap y) k)) (fun _ i => (m - intOf i).toNat)
  case atStart => exact ⟨1, by omega, by omega, rfl, by rw [vCum_one]; go_num⟩
  case round =>
    obtain ⟨k, k1, k2, rfl, rfl⟩ := hrel
    have b1 := L.out k
    have b2 := C.out k (by omega)
    by_cases hk : k < m
    · have b3 := Lib.hid (S.out k (by omega) (by omega))
      go_wp2_with (go_at_call 137; refine (length_c _ _ _).mono ?_; rintro e w' ⟨rfl, rfl⟩)
      go_round
      case rel => exact ⟨k + 1, by omega, by omega, rfl, by rw [b3.out]; go_num⟩
      case measure => simp [intOf]; omega
    · obtain rfl : k = m := by omega
      go_wp2_with fail
      go_ret2
      exact ⟨ret_ii (by rw [E1.out]; unfold vTo; omega) E2.out.symm, below_drewN HB _⟩

theorem to_c (y m d : Int) (w : World) : Calls Tryz.prog 177 #[.agg #[.int .i64 y, .int .i64 m, .int .i64 d]] w fun e w' => e = .returned (.tuple #[.int .i64 (vToN y m d), .int .i64 (vToE y m d)]) ∧ Below w.heap.size w w' := by
  cases h : vValid y m d
  · exact to_no y m d w h
  · exact to_yes y m d w h

set_option maxHeartbeats 400000 in
theorem rto_no (y m d : Int) (w : World) (h : vValid y m d = false) : Calls Tryz.prog 14 #[.agg #[.int .i64 y, .int .i64 m, .int .i64 d]] w fun e w' => e = .returned (.tuple #[.int .i64 (vToN y m d), .int .i64 (vToE y m d)]) ∧ Below w.heap.size w w' := by
  cases hy : vIn y
  · obtain ⟨e1, e2⟩ := vTo_out (m := m) (d := d) hy
    have E1 := Lib.hid e1
    have E2 := Lib.hid e2
    have HY := Lib.hid hy
    clear hy e1 e2 h
    go_enter Tryz.func14, Tryz.ntmps14
    go_wp2_with (go_at_call 33; refine (in_c _ _).mono ?_; rintro e w' ⟨rfl, rfl⟩; rw [HY.out])
    go_ret2
    exact ⟨ret_ii E1.out.symm E2.out.symm, (Below.refl _ _).alloc (Nat.le_refl _) _⟩
  · obtain ⟨e1, e2⟩ := vTo_bad hy h
    have E1 := Lib.hid e1
    have E2 := Lib.hid e2
    have HY := Lib.hid hy
    have HV := Lib.hid h
    clear hy e1 e2 h
    go_enter Tryz.func14, Tryz.ntmps14
    go_wp2_with (first | (go_at_call 33; refine (in_c _ _).mono ?_; rintro e w' ⟨rfl, rfl⟩; rw [HY.out]) | (go_at_call 34; refine (rvalid_c _ _ _ _).mono ?_; rintro e w1 ⟨rfl, hw⟩; rw [HV.out]))
    go_ret2
    exact ⟨ret_ii E1.out.symm E2.out.symm, ((Below.refl _ _).alloc (Nat.le_refl _) _).trans (hw.mono (by simp))⟩

set_option maxHeartbeats 400000 in
theorem rto_yes (y m d : Int) (w : World) (h : vValid y m d = true) : Calls Tryz.prog 14 #[.agg #[.int .i64 y, .int .i64 m, .int .i64 d]] w fun e w' => e = .returned (.tuple #[.int .i64 (vToN y m d), .int .i64 (vToE y m d)]) ∧ Below w.heap.size w w' := by
  obtain ⟨e1, e2⟩ := vTo_ok h
  obtain ⟨m1, m2⟩ := vValid_month h
  obtain ⟨⟨y1, y2⟩, d1, d2⟩ := vValid_iff.1 h
  have HY := Lib.hid (vIn_iff.2 ⟨y1, y2⟩)
  obtain ⟨f1, f2⟩ := vFirst_bd y1 (by omega)
  have d3 : d ≤ 31 := by have := vLen_le (vLeap y) m; omega
  have E1 := Lib.hid e1
  have E2 := Lib.hid e2
  have HV := Lib.hid h
  have HL := fun k => vLen_le (vLeap y) k
  have HC := fun k => @vCum_le (vLeap y) k
  have HS := fun k => @vCum_succ (vLeap y) k
  have L := Lib.hid HL
  have C := Lib.hid HC
  have S := Lib.hid HS
  have P := lp01 (vLeap y)
  clear e1 e2 h HL HC HS d2
  go_enter Tryz.func14, Tryz.ntmps14
  go_wp2_with (first | (go_at_call 33; refine (in_c _ _).mono ?_; rintro e w' ⟨rfl, rfl⟩; rw [HY.out]) | (go_at_call 11; refine (rfirst_c _ _ (by omega) (by omega)).mono ?_; rintro e w' ⟨rfl, rfl⟩) | (go_at_call 34; refine (rvalid_c _ _ _ _).mono ?_; rintro e w1 ⟨rfl, hw⟩; rw [HV.out]; obtain ⟨c0, c1, c2⟩ := boxed (hw.mono (by simp))))
  have HB : Below w.heap.size w w1 := ((Below.refl _ _).alloc (Nat.le_refl _) _).trans (hw.mono (by simp))
  clear hw
  go_loop [4, 5] (fun t i => ∃ k : Int, 1 ≤ k ∧ k ≤ m ∧ i = .int .i64 k ∧ t = .int .i64 (vFirst y + vCum (vLeap y) k)) (fun _ i => (m - intOf i).toNat)
  case atStart => exact ⟨1, by omega, by omega, rfl, by rw [vCum_one]; go_num⟩
  case round =>
    obtain ⟨k, k1, k2, rfl, rfl⟩ := hrel
    have b1 := L.out k
    have b2 := C.out k (by omega)
    by_cases hk : k < m
    · have b3 := Lib.hid (S.out k (by omega) (by omega))
      go_wp2_with (first | (go_at_call 19; refine (rleap_c _ _ (by omega) (by omega)).mono ?_; rintro e w' ⟨rfl, rfl⟩) | (go_at_call 35; refine (rlength_c _ _ _).mono ?_; rintro e w' ⟨rfl, rfl⟩))
      go_round
      case rel => exact ⟨k + 1, by omega, by omega, rfl, by rw [b3.out]; go_num⟩
      case measure => simp [intOf]; omega
    · obtain rfl : k = m := by omega
      go_wp2_with fail
      go_ret2
      exact ⟨ret_ii (by rw [E1.out]; unfold vTo; omega) E2.out.symm, HB⟩

theorem rto_c (y m d : Int) (w : World) : Calls Tryz.prog 14 #[.agg #[.int .i64 y, .int .i64 m, .int .i64 d]] w fun e w' => e = .returned (.tuple #[.int .i64 (vToN y m d), .int .i64 (vToE y m d)]) ∧ Below w.heap.size w w' := by
  cases h : vValid y m d
  · exact rto_no y m d w h
  · exact rto_yes y m d w h
end Go.Proofs.YtdgaflcnigljlaaGreatDoor
