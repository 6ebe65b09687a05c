/-
  Plain facts on the Julian calendar: lengths of months, days before a month, first days of years, the year and the month of a day. No program in sight.
-/
import Derived.WalkKit
namespace Go.Proofs.YtmdeeofeikdeeaaDoor
set_option linter.unusedVariables false

def vLeap (y : Int) : Bool := decide (y % 4 = 0)
/-- one in a leap year -/
def lp (b : Bool) : Int := if b = true then 1 else 0
theorem lp01 (b : Bool) : 0 ≤ lp b ∧ lp b ≤ 1 := by cases b <;> simp [lp]
def vLen (b : Bool) (m : Int) : Int :=
  if m = 1 ∨ m = 3 ∨ m = 5 ∨ m = 7 ∨ m = 8 ∨ m = 10 ∨ m = 12 then 31 else if m = 4 ∨ m = 6 ∨ m = 9 ∨ m = 11 then 30 else if m = 2 then 28 + lp b else 0
/-- the days before a month -/
def vCum (b : Bool) (m : Int) : Int :=
  if m ≤ 1 then 0 else if m = 2 then 31 else if m = 3 then 59 + lp b else if m = 4 then 90 + lp b else if m = 5 then 120 + lp b else if m = 6 then 151 + lp b else if m = 7 then 181 + lp b
  else if m = 8 then 212 + lp b else if m = 9 then 243 + lp b else if m = 10 then 273 + lp b else if m = 11 then 304 + lp b else if m = 12 then 334 + lp b else 365 + lp b
theorem twelve {m : Int} (h1 : 1 ≤ m) (h2 : m ≤ 12) : m = 1 ∨ m = 2 ∨ m = 3 ∨ m = 4 ∨ m = 5 ∨ m = 6 ∨ m = 7 ∨ m = 8 ∨ m = 9 ∨ m = 10 ∨ m = 11 ∨ m = 12 := by omega
theorem vLen_out {b : Bool} {m : Int} (h : m < 1 ∨ 12 < m) : vLen b m = 0 := by unfold vLen; rw [if_neg (by omega), if_neg (by omega), if_neg (by omega)]
theorem vLen_in {b : Bool} {m : Int} (h1 : 1 ≤ m) (h2 : m ≤ 12) : 28 ≤ vLen b m ∧ vLen b m ≤ 31 := by
  have := lp01 b
  unfold vLen; split
  · omega
  · split
    · omega
    · rw [if_pos (by omega)]; omega
theorem vLen_le (b : Bool) (m : Int) : 0 ≤ vLen b m ∧ vLen b m ≤ 31 := by
  by_cases h : m < 1 ∨ 12 < m
  · rw [vLen_out h]; omega
  · have := @vLen_in b m (by omega) (by omega); omega
theorem vCum_succ {b : Bool} {m : Int} (h1 : 1 ≤ m) (h2 : m ≤ 12) : vCum b (m + 1) = vCum b m + vLen b m := by
  rcases twelve h1 h2 with rfl | rfl | rfl | rfl | rfl | rfl | rfl | rfl | rfl | rfl | rfl | rfl <;> simp [vCum, vLen] <;> omega
theorem vCum_one (b : Bool) : vCum b 1 = 0 := by simp [vCum]
theorem vCum_end (b : Bool) : vCum b 13 = 365 + lp b := by simp [vCum]
theorem vCum_le {b : Bool} {m : Int} (h2 : m ≤ 13) : 0 ≤ vCum b m ∧ vCum b m ≤ 365 + lp b := by
  have := lp01 b
  by_cases h : m ≤ 1
  · unfold vCum; rw [if_pos h]; omega
  · by_cases h13 : m = 13
    · subst h13; rw [vCum_end]; omega
    · rcases twelve (m := m) (by omega) (by omega) with rfl | rfl | rfl | rfl | rfl | rfl | rfl | rfl | rfl | rfl | rfl | rfl <;> simp [vCum] <;> omega
theorem vCum_mono {b : Bool} {m k : Int} (h0 : 1 ≤ m) (h : m ≤ k) (h1 : k ≤ 13) : vCum b m ≤ vCum b k := by
  obtain ⟨d, rfl⟩ : ∃ d : Nat, k = m + (d : Int) := ⟨(k - m).toNat, by omega⟩
  clear h
  induction d with
  | zero => simp
  | succ d ih =>
    have := ih (by omega)
    have e := @vCum_succ b (m + d) (by omega) (by omega)
    have := vLen_le b (m + d)
    rw [show m + ((d + 1 : Nat) : Int) = m + d + 1 by omega, e]; omega
/-- the month of a day of the year, the first being 0 -/
def vMon (b : Bool) (d : Int) : Int :=
  if d < vCum b 2 then 1 else if d < vCum b 3 then 2 else if d < vCum b 4 then 3 else if d < vCum b 5 then 4 else if d < vCum b 6 then 5 else if d < vCum b 7 then 6
  else if d < vCum b 8 then 7 else if d < vCum b 9 then 8 else if d < vCum b 10 then 9 else if d < vCum b 11 then 10 else if d < vCum b 12 then 11 else 12
theorem vMon_spec {b : Bool} {d : Int} (h0 : 0 ≤ d) (h1 : d < 365 + lp b) : 1 ≤ vMon b d ∧ vMon b d ≤ 12 ∧ vCum b (vMon b d) ≤ d ∧ d < vCum b (vMon b d + 1) := by
  have e1 := vCum_one b
  have e13 := vCum_end b
  unfold vMon
  repeat' split
  all_goals (refine ⟨by omega, by omega, ?_, ?_⟩ <;> (try simp only [Int.reduceAdd]) <;> omega)
theorem vMon_uniq {b : Bool} {d m : Int} (h1 : 1 ≤ m) (h2 : m ≤ 12) (h3 : vCum b m ≤ d) (h4 : d < vCum b (m + 1)) : vMon b d = m := by
  have l1 := vCum_le (b := b) (m := m) (by omega)
  have l2 := vCum_le (b := b) (m := m + 1) (by omega)
  obtain ⟨s1, s2, s3, s4⟩ := vMon_spec (b := b) (d := d) (by omega) (by omega)
  by_cases h : m < vMon b d
  · have := vCum_mono (b := b) (m := m + 1) (k := vMon b d) (by omega) (by omega) (by omega)
    omega
  · by_cases h' : vMon b d < m
    · have := vCum_mono (b := b) (m := vMon b d + 1) (k := m) (by omega) (by omega) (by omega)
      omega
    · omega

def vIn (y : Int) : Bool := decide (1 ≤ y ∧ y ≤ 1000000000)
theorem vIn_iff {y : Int} : vIn y = true ↔ 1 ≤ y ∧ y ≤ 1000000000 := by simp [vIn]
theorem vIn_not {y : Int} : vIn y = false ↔ (y < 1 ∨ 1000000000 < y) := by simp [vIn]; omega
/-- the first day of a year -/
def vFirst (y : Int) : Int := 365 * (y - 1) + (y - 1) / 4 - 1
theorem vFirst_succ (y : Int) : vFirst (y + 1) = vFirst y + 365 + lp (vLeap y) := by
  unfold vFirst vLeap lp
  by_cases h : y % 4 = 0
  · rw [if_pos (by simpa using h)]; omega
  · rw [if_neg (by simpa using h)]; omega
theorem vFirst_mono {a b : Int} (h : a ≤ b) : vFirst a ≤ vFirst b := by unfold vFirst; omega
theorem vFirst_bd {y : Int} (h0 : 1 ≤ y) (h1 : y ≤ 1000000001) : -1 ≤ vFirst y ∧ vFirst y ≤ 365249999999 := by unfold vFirst; omega
def vDayOk (n : Int) : Bool := decide (-1 ≤ n ∧ n < 365249999999)
theorem vFirst_end : vFirst 1000000001 = 365249999999 := by decide
theorem vDayOk_iff {n : Int} : vDayOk n = true ↔ -1 ≤ n ∧ n < 365249999999 := by simp [vDayOk]
/-- the year of a day -/
def vYear (n : Int) : Int := 4 * ((n + 1) / 1461) + min ((n + 1) % 1461 / 365) 3 + 1
theorem vYear_spec (n : Int) : vFirst (vYear n) ≤ n ∧ n < vFirst (vYear n + 1) := by unfold vYear vFirst; omega
theorem vYear_in {n : Int} (h0 : -1 ≤ n) (h1 : n < 365249999999) : 1 ≤ vYear n ∧ vYear n ≤ 1000000000 := by unfold vYear; omega
theorem vYear_uniq {n y : Int} (h0 : vFirst y ≤ n) (h1 : n < vFirst (y + 1)) : vYear n = y := by
  obtain ⟨s1, s2⟩ := vYear_spec n
  by_cases h : y < vYear n
  · have := vFirst_mono (a := y + 1) (b := vYear n) (by omega); omega
  · by_cases h' : vYear n < y
    · have := vFirst_mono (a := vYear n + 1) (b := y) (by omega); omega
    · omega
/-- the day of the year -/
def vDoy (n : Int) : Int := n - vFirst (vYear n)
theorem vDoy_in (n : Int) : 0 ≤ vDoy n ∧ vDoy n < 365 + lp (vLeap (vYear n)) := by
  have := vYear_spec n
  rw [vFirst_succ] at this
  unfold vDoy; omega
def vValid (y m d : Int) : Bool := vIn y && decide (1 ≤ d) && decide (d ≤ vLen (vLeap y) m)
theorem vValid_iff {y m d : Int} : vValid y m d = true ↔ (1 ≤ y ∧ y ≤ 1000000000) ∧ 1 ≤ d ∧ d ≤ vLen (vLeap y) m := by
  unfold vValid; rw [Bool.and_eq_true, Bool.and_eq_true, vIn_iff, decide_eq_true_eq, decide_eq_true_eq, and_assoc]
theorem vValid_month {y m d : Int} (h : vValid y m d = true) : 1 ≤ m ∧ m ≤ 12 := by
  rw [vValid_iff] at h
  by_cases hm : m < 1 ∨ 12 < m
  · rw [vLen_out hm] at h; omega
  · omega
def vTo (y m d : Int) : Int := vFirst y + vCum (vLeap y) m + d - 1
def vToE (y m d : Int) : Int := if vIn y = true then (if vValid y m d = true then 0 else 2) else 1
def vToN (y m d : Int) : Int := if vValid y m d = true then vTo y m d else 0
def mMon (n : Int) : Int := vMon (vLeap (vYear n)) (vDoy n)
def mDay (n : Int) : Int := vDoy n - vCum (vLeap (vYear n)) (mMon n) + 1
theorem from_valid {n : Int} (h0 : -1 ≤ n) (h1 : n < 365249999999) : vValid (vYear n) (mMon n) (mDay n) = true ∧ vTo (vYear n) (mMon n) (mDay n) = n := by
  have hy := vYear_in h0 h1
  have hd := vDoy_in n
  obtain ⟨s1, s2, s3, s4⟩ := vMon_spec hd.1 hd.2
  have e := vCum_succ (b := vLeap (vYear n)) s1 s2
  refine ⟨vValid_iff.2 ⟨hy, ?_, ?_⟩, ?_⟩
  · unfold mDay mMon; omega
  · unfold mDay mMon; omega
  · unfold vTo mDay mMon; unfold vDoy at *; omega
theorem to_from {y m d : Int} (h : vValid y m d = true) : (-1 ≤ vTo y m d ∧ vTo y m d < 365249999999) ∧ vYear (vTo y m d) = y ∧ mMon (vTo y m d) = m ∧ mDay (vTo y m d) = d := by
  obtain ⟨m1, m2⟩ := vValid_month h
  obtain ⟨⟨y1, y2⟩, d1, d2⟩ := vValid_iff.1 h
  have e := vCum_succ (b := vLeap y) m1 m2
  have l1 := vCum_le (b := vLeap y) (m := m) (by omega)
  have l2 := vCum_le (b := vLeap y) (m := m + 1) (by omega)
  have s := vFirst_succ y
  have b1 := vFirst_bd y1 (by omega)
  have b2 := vFirst_bd (y := y + 1) (by omega) (by omega)
  have hy : vYear (vTo y m d) = y := vYear_uniq (by unfold vTo; omega) (by unfold vTo; omega)
  have hd : vDoy (vTo y m d) = vCum (vLeap y) m + d - 1 := by unfold vDoy; rw [hy]; unfold vTo; omega
  have hm : mMon (vTo y m d) = m := by
    unfold mMon; rw [hy, hd]
    exact vMon_uniq m1 m2 (by omega) (by omega)
  refine ⟨⟨by unfold vTo; omega, by unfold vTo; omega⟩, hy, hm, ?_⟩
  unfold mDay; rw [hm, hy, hd]; omega
end Go.Proofs.YtmdeeofeikdeeaaDoor
