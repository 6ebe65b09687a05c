/-
  Contracts and plain facts for the laws on the whole program: the parts below say each what they are. No further condition.
-/
import Derived.WalkKit
/-
  Plain facts on floored and truncated quotients of 64-bit integers. No program in sight.
-/
namespace Go.Proofs.YtdgaflcnigljlaaGreatDoor
open Go.RowKit
def In64 (n : Int) : Prop := -9223372036854775808 ≤ n ∧ n ≤ 9223372036854775807
theorem wrap_in {n : Int} (h : In64 n) : wrap64 n = n := by unfold In64 at h; unfold wrap64; omega
theorem dvd_iff {a b : Int} : b ∣ a ↔ a.tmod b = 0 := Int.dvd_iff_tmod_eq_zero ..
theorem tmod_neg_iff {a b : Int} (h : ¬ a.tmod b = 0) : a.tmod b < 0 ↔ a < 0 := by
  constructor
  · intro h1
    apply Classical.byContradiction
    intro h2
    have := Int.tmod_nonneg (a := a) b (by omega)
    omega
  · intro h1
    have := Int.tmod_nonneg (a := -a) b (by omega)
    rw [Int.neg_tmod] at this
    omega
theorem fdm_zero {a b : Int} (h : a.tmod b = 0) : a.fdiv b = a.tdiv b ∧ a.fmod b = 0 := by
  have hd : b ∣ a := dvd_iff.2 h
  rw [Int.fdiv_eq_tdiv, Int.fmod_eq_tmod, if_pos hd, if_pos hd, h]
  omega
theorem fdm_adj {a b : Int} (hb : ¬ b = 0) (h : ¬ a.tmod b = 0) (hs : ¬ (a.tmod b < 0 ↔ b < 0)) : a.fdiv b = a.tdiv b - 1 ∧ a.fmod b = a.tmod b + b := by
  have hd : ¬ b ∣ a := fun e => h (dvd_iff.1 e)
  rw [tmod_neg_iff h] at hs
  rw [Int.fdiv_eq_tdiv, Int.fmod_eq_tmod, if_neg hd, if_neg hd]
  by_cases h0 : 0 ≤ a
  · rw [if_pos h0, if_pos h0]
    have : ¬ 0 ≤ b := by omega
    rw [if_neg this, if_neg this]; omega
  · rw [if_neg h0, if_neg h0]
    have : 0 ≤ b := by omega
    rw [if_pos this, if_pos this, Int.sign_eq_one_of_pos (by omega)]; omega
theorem fdm_same {a b : Int} (h : ¬ a.tmod b = 0) (hs : a.tmod b < 0 ↔ b < 0) : a.fdiv b = a.tdiv b ∧ a.fmod b = a.tmod b := by
  have hd : ¬ b ∣ a := fun e => h (dvd_iff.1 e)
  rw [tmod_neg_iff h] at hs
  rw [Int.fdiv_eq_tdiv, Int.fmod_eq_tmod, if_neg hd, if_neg hd]
  by_cases h0 : 0 ≤ a
  · rw [if_pos h0, if_pos h0]
    have : 0 ≤ b := by omega
    rw [if_pos this, if_pos this]; omega
  · rw [if_neg h0, if_neg h0]
    have : ¬ 0 ≤ b := by omega
    rw [if_neg this, if_neg this, Int.sign_eq_neg_one_of_neg (by omega)]; omega
theorem tdiv_in {a b : Int} (ha : In64 a) (h : ¬ (a = -9223372036854775808 ∧ b = -1)) : In64 (a.tdiv b) := by
  unfold In64 at *
  have e : (a.tdiv b).natAbs = a.natAbs / b.natAbs := Int.natAbs_tdiv a b
  have l : a.natAbs / b.natAbs ≤ a.natAbs := Nat.div_le_self _ _
  rw [← e] at l
  by_cases hm : a = -9223372036854775808
  · by_cases h1 : b.natAbs = 1
    · have : b = 1 := by omega
      subst this; simp; omega
    · by_cases h0 : b.natAbs = 0
      · have : b = 0 := by omega
        subst this; simp
      · have h2 : a.natAbs / b.natAbs ≤ a.natAbs / 2 := Nat.div_le_div_left (by omega) (by omega)
        rw [← e] at h2
        omega
  · omega
theorem tmod_abs {a b : Int} (hb : ¬ b = 0) : (a.tmod b).natAbs < b.natAbs := by
  rw [Int.natAbs_tmod]; exact Nat.mod_lt _ (by omega)
theorem tdiv_adj_in {a b : Int} (ha : In64 a) (hb : ¬ b = 0) (h : ¬ a.tmod b = 0) : In64 (a.tdiv b - 1) := by
  unfold In64 at *
  have e : (a.tdiv b).natAbs = a.natAbs / b.natAbs := Int.natAbs_tdiv a b
  have := tmod_abs (a := a) hb
  have h2 : a.natAbs / b.natAbs ≤ a.natAbs / 2 := Nat.div_le_div_left (by omega) (by omega)
  rw [← e] at h2
  omega
end Go.Proofs.YtdgaflcnigljlaaGreatDoor
/-
  Plain facts on the Gregorian calendar: lengths of months, days before a month, first days of years, the year and the month of a day. No program in sight.
-/
namespace Go.Proofs.YtdgaflcnigljlaaGreatDoor
set_option linter.unusedVariables false

def vLeap (y : Int) : Bool := decide (y % 4 = 0 ∧ (¬ y % 100 = 0 ∨ y % 400 = 0))
/-- one in a leap year -/
def lp (b : Bool) : Int := if b = true then 1 else 0
theorem lp01 (b : Bool) : 0 ≤ lp b ∧ lp b ≤ 1 := by cases b <;> simp [lp]
def vLen (b : Bool) (m : Int) : Int :=
  if m = 1 ∨ m = 3 ∨ m = 5 ∨ m = 7 ∨ m = 8 ∨ m = 10 ∨ m = 12 then 31 else if m = 4 ∨ m = 6 ∨ m = 9 ∨ m = 11 then 30 else if m = 2 then 28 + lp b else 0
/-- the days before a month -/
def vCum (b : Bool) (m : Int) : Int :=
  if m ≤ 1 then 0 else if m = 2 then 31 else if m = 3 then 59 + lp b else if m = 4 then 90 + lp b else if m = 5 then 120 + lp b else if m = 6 then 151 + lp b else if m = 7 then 181 + lp b
  else if m = 8 then 212 + lp b else if m = 9 then 243 + lp b else if m = 10 then 273 + lp b else if m = 11 then 304 + lp b else if m = 12 then 334 + lp b else 365 + lp b
theorem twelve {m : Int} (h1 : 1 ≤ m) (h2 : m ≤ 12) : m = 1 ∨ m = 2 ∨ m = 3 ∨ m = 4 ∨ m = 5 ∨ m = 6 ∨ m = 7 ∨ m = 8 ∨ m = 9 ∨ m = 10 ∨ m = 11 ∨ m = 12 := by omega
theorem vLen_out {b : Bool} {m : Int} (h : m < 1 ∨ 12 < m) : vLen b m = 0 := by unfold vLen; rw [if_neg (by omega), if_neg (by omega), if_neg (by omega)]
theorem vLen_in {b : Bool} {m : Int} (h1 : 1 ≤ m) (h2 : m ≤ 12) : 28 ≤ vLen b m ∧ vLen b m ≤ 31 := by
  have := lp01 b
  unfold vLen; split
  · omega
  · split
    · omega
    · rw [if_pos (by omega)]; omega
theorem vLen_le (b : Bool) (m : Int) : 0 ≤ vLen b m ∧ vLen b m ≤ 31 := by
  by_cases h : m < 1 ∨ 12 < m
  · rw [vLen_out h]; omega
  · have := @vLen_in b m (by omega) (by omega); omega
theorem vCum_succ {b : Bool} {m : Int} (h1 : 1 ≤ m) (h2 : m ≤ 12) : vCum b (m + 1) = vCum b m + vLen b m := by
  rcases twelve h1 h2 with rfl | rfl | rfl | rfl | rfl | rfl | rfl | rfl | rfl | rfl | rfl | rfl <;> simp [vCum, vLen] <;> omega
theorem vCum_one (b : Bool) : vCum b 1 = 0 := by simp [vCum]
theorem vCum_end (b : Bool) : vCum b 13 = 365 + lp b := by simp [vCum]
theorem vCum_le {b : Bool} {m : Int} (h2 : m ≤ 13) : 0 ≤ vCum b m ∧ vCum b m ≤ 365 + lp b := by
  have := lp01 b
  by_cases h : m ≤ 1
  · unfold vCum; rw [if_pos h]; omega
  · by_cases h13 : m = 13
    · subst h13; rw [vCum_end]; omega
    · rcases twelve (m := m) (by omega) (by omega) with rfl | rfl | rfl | rfl | rfl | rfl | rfl | rfl | rfl | rfl | rfl | rfl <;> simp [vCum] <;> omega
theorem vCum_mono {b : Bool} {m k : Int} (h0 : 1 ≤ m) (h : m ≤ k) (h1 : k ≤ 13) : vCum b m ≤ vCum b k := by
  obtain ⟨d, rfl⟩ : ∃ d : Nat, k = m + (d : Int) := ⟨(k - m).toNat, by omega⟩
  clear h
  induction d with
  | zero => simp
  | succ d ih =>
    have := ih (by omega)
    have e := @vCum_succ b (m + d) (by omega) (by omega)
    have := vLen_le b (m + d)
    rw [show m + ((d + 1 : Nat) : Int) = m + d + 1 by omega, e]; omega
/-- the month of a day of the year, the first being 0 -/
def vMon (b : Bool) (d : Int) : Int :=
  if d < vCum b 2 then 1 else if d < vCum b 3 then 2 else if d < vCum b 4 then 3 else if d < vCum b 5 then 4 else if d < vCum b 6 then 5 else if d < vCum b 7 then 6
  else if d < vCum b 8 then 7 else if d < vCum b 9 then 8 else if d < vCum b 10 then 9 else if d < vCum b 11 then 10 else if d < vCum b 12 then 11 else 12
theorem vMon_spec {b : Bool} {d : Int} (h0 : 0 ≤ d) (h1 : d < 365 + lp b) : 1 ≤ vMon b d ∧ vMon b d ≤ 12 ∧ vCum b (vMon b d) ≤ d ∧ d < vCum b (vMon b d + 1) := by
  have e1 := vCum_one b
  have e13 := vCum_end b
  unfold vMon
  repeat' split
  all_goals (refine ⟨by omega, by omega, ?_, ?_⟩ <;> (try simp only [Int.reduceAdd]) <;> omega)
theorem vMon_uniq {b : Bool} {d m : Int} (h1 : 1 ≤ m) (h2 : m ≤ 12) (h3 : vCum b m ≤ d) (h4 : d < vCum b (m + 1)) : vMon b d = m := by
  have l1 := vCum_le (b := b) (m := m) (by omega)
  have l2 := vCum_le (b := b) (m := m + 1) (by omega)
  obtain ⟨s1, s2, s3, s4⟩ := vMon_spec (b := b) (d := d) (by omega) (by omega)
  by_cases h : m < vMon b d
  · have := vCum_mono (b := b) (m := m + 1) (k := vMon b d) (by omega) (by omega) (by omega)
    omega
  · by_cases h' : vMon b d < m
    · have := vCum_mono (b := b) (m := vMon b d + 1) (k := m) (by omega) (by omega) (by omega)
      omega
    · omega

def vIn (y : Int) : Bool := decide (1 ≤ y ∧ y ≤ 1000000000)
theorem vIn_iff {y : Int} : vIn y = true ↔ 1 ≤ y ∧ y ≤ 1000000000 := by simp [vIn]
theorem vIn_not {y : Int} : vIn y = false ↔ (y < 1 ∨ 1000000000 < y) := by simp [vIn]; omega
/-- the first day of a year -/
def vFirst (y : Int) : Int := 365 * (y - 1) + (y - 1) / 4 - (y - 1) / 100 + (y - 1) / 400 + 1
theorem vFirst_succ (y : Int) : vFirst (y + 1) = vFirst y + 365 + lp (vLeap y) := by
  unfold vFirst
  have h4 : (y + 1 - 1) / 4 = (y - 1) / 4 + (if y % 4 = 0 then 1 else 0) := by split <;> omega
  have h100 : (y + 1 - 1) / 100 = (y - 1) / 100 + (if y % 100 = 0 then 1 else 0) := by split <;> omega
  have h400 : (y + 1 - 1) / 400 = (y - 1) / 400 + (if y % 400 = 0 then 1 else 0) := by split <;> omega
  rw [h4, h100, h400]
  have e : lp (vLeap y) = (if y % 4 = 0 then 1 else 0) - (if y % 100 = 0 then 1 else 0) + (if y % 400 = 0 then 1 else 0) := by
    unfold lp vLeap
    by_cases a : y % 4 = 0 <;> by_cases b : y % 100 = 0 <;> by_cases c : y % 400 = 0 <;> simp [a, b, c] <;> omega
  rw [e]; omega
theorem vFirst_mono {a b : Int} (h : a ≤ b) : vFirst a ≤ vFirst b := by
  obtain ⟨d, rfl⟩ : ∃ d : Nat, b = a + (d : Int) := ⟨(b - a).toNat, by omega⟩
  clear h
  induction d with
  | zero => simp
  | succ d ih =>
    have e := vFirst_succ (a + d)
    have := lp01 (vLeap (a + d))
    rw [show a + ((d + 1 : Nat) : Int) = a + d + 1 by omega, e]; omega
theorem vFirst_one : vFirst 1 = 1 := by decide
theorem vFirst_end : vFirst 1000000001 = 365242500001 := by decide
theorem vFirst_bd {y : Int} (h0 : 1 ≤ y) (h1 : y ≤ 1000000001) : 1 ≤ vFirst y ∧ vFirst y ≤ 365242500001 := by
  have a := vFirst_mono h0
  have b := vFirst_mono h1
  rw [vFirst_one] at a
  rw [vFirst_end] at b
  exact ⟨a, b⟩
def vDayOk (n : Int) : Bool := decide (1 ≤ n ∧ n < 365242500001)
theorem vDayOk_iff {n : Int} : vDayOk n = true ↔ 1 ≤ n ∧ n < 365242500001 := by simp [vDayOk]
/-- the year of a day -/
def y400 (n : Int) : Int := (n - 1) / 146097
def r400 (n : Int) : Int := n - 1 - y400 n * 146097
def y100 (n : Int) : Int := min (r400 n / 36524) 3
def r100 (n : Int) : Int := r400 n - y100 n * 36524
def y4 (n : Int) : Int := min (r100 n / 1461) 24
def r4 (n : Int) : Int := r100 n - y4 n * 1461
def y1 (n : Int) : Int := min (r4 n / 365) 3
def vYear (n : Int) : Int := 1 + y400 n * 400 + y100 n * 100 + y4 n * 4 + y1 n
theorem r400_in (n : Int) : 0 ≤ r400 n ∧ r400 n < 146097 := by unfold r400 y400; omega
theorem y100_in (n : Int) : 0 ≤ y100 n ∧ y100 n ≤ 3 ∧ 0 ≤ r100 n ∧ r100 n ≤ 36524 ∧ (y100 n < 3 → r100 n < 36524) := by have := r400_in n; unfold r100 y100; omega
theorem y4_in (n : Int) : 0 ≤ y4 n ∧ y4 n ≤ 24 ∧ 0 ≤ r4 n ∧ r4 n ≤ 1460 ∧ (y4 n = 24 → y100 n < 3 → r4 n < 1460) := by have := y100_in n; unfold r4 y4; omega
theorem y1_in (n : Int) : 0 ≤ y1 n ∧ y1 n ≤ 3 ∧ 0 ≤ r4 n - y1 n * 365 ∧ r4 n - y1 n * 365 ≤ 365 ∧ (y1 n < 3 → r4 n - y1 n * 365 < 365) ∧ (y4 n = 24 → y100 n < 3 → r4 n - y1 n * 365 < 365) := by have := y4_in n; unfold y1; omega
theorem q4 {a b c d : Int} (h1 : 0 ≤ d) (h2 : d ≤ 3) : (1 + a * 400 + b * 100 + c * 4 + d - 1) / 4 = 100 * a + 25 * b + c := by omega
theorem q100 {a b c d : Int} (h1 : 0 ≤ d) (h2 : d ≤ 3) (h3 : 0 ≤ c) (h4 : c ≤ 24) : (1 + a * 400 + b * 100 + c * 4 + d - 1) / 100 = 4 * a + b := by omega
theorem q400 {a b c d : Int} (h1 : 0 ≤ d) (h2 : d ≤ 3) (h3 : 0 ≤ c) (h4 : c ≤ 24) (h5 : 0 ≤ b) (h6 : b ≤ 3) : (1 + a * 400 + b * 100 + c * 4 + d - 1) / 400 = a := by omega
theorem m4 {a b c : Int} : (1 + a * 400 + b * 100 + c * 4 + 3) % 4 = 0 := by omega
theorem m100 {a b c : Int} (h3 : 0 ≤ c) (h4 : c ≤ 24) (h : (1 + a * 400 + b * 100 + c * 4 + 3) % 100 = 0) : c = 24 := by omega
theorem m400 {a : Int} : (1 + a * 400 + 3 * 100 + 24 * 4 + 3) % 400 = 0 := by omega
theorem vYear_spec (n : Int) : vFirst (vYear n) ≤ n ∧ n < vFirst (vYear n + 1) := by
  obtain ⟨a1, a2, a3, a4, a5⟩ := y100_in n
  obtain ⟨b1, b2, b3, b4, b5⟩ := y4_in n
  obtain ⟨c1, c2, c3, c4, c5, c6⟩ := y1_in n
  have e : n = 1 + 146097 * y400 n + 36524 * y100 n + 1461 * y4 n + r4 n := by unfold r4 r100 r400; omega
  have f : vYear n = 1 + y400 n * 400 + y100 n * 100 + y4 n * 4 + y1 n := rfl
  rw [vFirst_succ]
  have g : vFirst (vYear n) = n - (r4 n - y1 n * 365) := by unfold vFirst; rw [f, q4 c1 c2, q100 c1 c2 b1 b2, q400 c1 c2 b1 b2 a1 a2]; omega
  have l : r4 n - y1 n * 365 = 365 → lp (vLeap (vYear n)) = 1 := by
    intro h
    have k3 : y1 n = 3 := by omega
    have m : ¬ vYear n % 100 = 0 ∨ vYear n % 400 = 0 := by
      by_cases hh : vYear n % 100 = 0
      · right
        rw [f, k3] at hh
        have e4 := m100 b1 b2 hh
        have e3 : y100 n = 3 := by omega
        rw [f, k3, e3, e4]; exact m400
      · left; exact hh
    unfold lp vLeap
    rw [if_pos (by simp only [decide_eq_true_eq]; exact ⟨by rw [f, k3]; exact m4, m⟩)]
  have p := lp01 (vLeap (vYear n))
  rw [g]
  generalize lp (vLeap (vYear n)) = z at *
  generalize r4 n - y1 n * 365 = u at *
  clear e f g a1 a2 a3 a4 a5 b1 b2 b3 b4 b5 c1 c2 c5 c6
  refine ⟨by omega, ?_⟩
  by_cases h : u = 365
  · have := l h; omega
  · omega
theorem vYear_in {n : Int} (h0 : 1 ≤ n) (h1 : n < 365242500001) : 1 ≤ vYear n ∧ vYear n ≤ 1000000000 := by
  obtain ⟨s1, s2⟩ := vYear_spec n
  constructor
  · by_cases h : 1 ≤ vYear n
    · exact h
    · have := vFirst_mono (a := vYear n + 1) (b := 1) (by omega); rw [vFirst_one] at this; omega
  · by_cases h : vYear n ≤ 1000000000
    · exact h
    · have := vFirst_mono (a := 1000000001) (b := vYear n) (by omega); rw [vFirst_end] at this; omega
theorem vYear_uniq {n y : Int} (h0 : vFirst y ≤ n) (h1 : n < vFirst (y + 1)) : vYear n = y := by
  obtain ⟨s1, s2⟩ := vYear_spec n
  by_cases h : y < vYear n
  · have := vFirst_mono (a := y + 1) (b := vYear n) (by omega); omega
  · by_cases h' : vYear n < y
    · have := vFirst_mono (a := vYear n + 1) (b := y) (by omega); omega
    · omega
/-- the day of the year -/
def vDoy (n : Int) : Int := n - vFirst (vYear n)
theorem vDoy_in (n : Int) : 0 ≤ vDoy n ∧ vDoy n < 365 + lp (vLeap (vYear n)) := by
  have := vYear_spec n
  rw [vFirst_succ] at this
  unfold vDoy; omega
def vValid (y m d : Int) : Bool := vIn y && decide (1 ≤ d) && decide (d ≤ vLen (vLeap y) m)
theorem vValid_iff {y m d : Int} : vValid y m d = true ↔ (1 ≤ y ∧ y ≤ 1000000000) ∧ 1 ≤ d ∧ d ≤ vLen (vLeap y) m := by
  unfold vValid; rw [Bool.and_eq_true, Bool.and_eq_true, vIn_iff, decide_eq_true_eq, decide_eq_true_eq, and_assoc]
theorem vValid_month {y m d : Int} (h : vValid y m d = true) : 1 ≤ m ∧ m ≤ 12 := by
  rw [vValid_iff] at h
  by_cases hm : m < 1 ∨ 12 < m
  · rw [vLen_out hm] at h; omega
  · omega
def vTo (y m d : Int) : Int := vFirst y + vCum (vLeap y) m + d - 1
def vToE (y m d : Int) : Int := if vIn y = true then (if vValid y m d = true then 0 else 2) else 1
def vToN (y m d : Int) : Int := if vValid y m d = true then vTo y m d else 0
def mMon (n : Int) : Int := vMon (vLeap (vYear n)) (vDoy n)
def mDay (n : Int) : Int := vDoy n - vCum (vLeap (vYear n)) (mMon n) + 1
theorem from_valid {n : Int} (h0 : 1 ≤ n) (h1 : n < 365242500001) : vValid (vYear n) (mMon n) (mDay n) = true ∧ vTo (vYear n) (mMon n) (mDay n) = n := by
  have hy := vYear_in h0 h1
  have hd := vDoy_in n
  obtain ⟨s1, s2, s3, s4⟩ := vMon_spec hd.1 hd.2
  have e := vCum_succ (b := vLeap (vYear n)) s1 s2
  refine ⟨vValid_iff.2 ⟨hy, ?_, ?_⟩, ?_⟩
  · unfold mDay mMon; omega
  · unfold mDay mMon; omega
  · unfold vTo mDay mMon; unfold vDoy at *; omega
theorem to_from {y m d : Int} (h : vValid y m d = true) : (1 ≤ vTo y m d ∧ vTo y m d < 365242500001) ∧ vYear (vTo y m d) = y ∧ mMon (vTo y m d) = m ∧ mDay (vTo y m d) = d := by
  obtain ⟨m1, m2⟩ := vValid_month h
  obtain ⟨⟨y1, y2⟩, d1, d2⟩ := vValid_iff.1 h
  have e := vCum_succ (b := vLeap y) m1 m2
  have l1 := vCum_le (b := vLeap y) (m := m) (by omega)
  have l2 := vCum_le (b := vLeap y) (m := m + 1) (by omega)
  have s := vFirst_succ y
  have b1 := vFirst_bd y1 (by omega)
  have b2 := vFirst_bd (y := y + 1) (by omega) (by omega)
  have hy : vYear (vTo y m d) = y := vYear_uniq (by unfold vTo; omega) (by unfold vTo; omega)
  have hd : vDoy (vTo y m d) = vCum (vLeap y) m + d - 1 := by unfold vDoy; rw [hy]; unfold vTo; omega
  have hm : mMon (vTo y m d) = m := by
    unfold mMon; rw [hy, hd]
    exact vMon_uniq m1 m2 (by omega) (by omega)
  refine ⟨⟨by unfold vTo; omega, by unfold vTo; omega⟩, hy, hm, ?_⟩
  unfold mDay; rw [hm, hy, hd]; omega
end Go.Proofs.YtdgaflcnigljlaaGreatDoor
