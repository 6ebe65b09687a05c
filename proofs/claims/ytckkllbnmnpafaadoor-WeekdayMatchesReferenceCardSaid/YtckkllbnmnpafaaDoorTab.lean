/-
  Contracts of Name, Find, of the reference's Name and Find, and of the law's awake, wherever the table of names lies in memory as the program text lays it.
-/
import Derived.Test.YtckkllbnmnpafaaDoorBase2
namespace Go.Proofs.YtckkllbnmnpafaaDoor
open Go.RowKit
set_option linter.unusedVariables false

/-- The table of names lies in block 0. -/
def NamesIn (w : World) : Prop := 0 < w.heap.size ∧ w.cell? ⟨0, 0, none⟩ = some (.string ⟨#[115, 117, 110, 100, 97, 121]⟩) ∧ w.cell? ⟨0, 1, none⟩ = some (.string ⟨#[109, 111, 110, 100, 97, 121]⟩) ∧ w.cell? ⟨0, 2, none⟩ = some (.string ⟨#[116, 117, 101, 115, 100, 97, 121]⟩) ∧ w.cell? ⟨0, 3, none⟩ = some (.string ⟨#[119, 101, 100, 110, 101, 115, 100, 97, 121]⟩) ∧ w.cell? ⟨0, 4, none⟩ = some (.string ⟨#[116, 104, 117, 114, 115, 100, 97, 121]⟩) ∧ w.cell? ⟨0, 5, none⟩ = some (.string ⟨#[102, 114, 105, 100, 97, 121]⟩) ∧ w.cell? ⟨0, 6, none⟩ = some (.string ⟨#[115, 97, 116, 117, 114, 100, 97, 121]⟩)
theorem NamesIn.below {w w' : World} (h : NamesIn w) (hb : Below w.heap.size w w') : NamesIn w' := by
  obtain ⟨h0, a0, a1, a2, a3, a4, a5, a6⟩ := h
  refine ⟨Nat.lt_of_lt_of_le h0 hb.size, ?_, ?_, ?_, ?_, ?_, ?_, ?_⟩
  all_goals (rw [hb.cell (by exact h0)]; assumption)
def vName (k : Int) : ByteArray := if k = 0 then ⟨#[115, 117, 110, 100, 97, 121]⟩ else if k = 1 then ⟨#[109, 111, 110, 100, 97, 121]⟩ else if k = 2 then ⟨#[116, 117, 101, 115, 100, 97, 121]⟩ else if k = 3 then ⟨#[119, 101, 100, 110, 101, 115, 100, 97, 121]⟩ else if k = 4 then ⟨#[116, 104, 117, 114, 115, 100, 97, 121]⟩ else if k = 5 then ⟨#[102, 114, 105, 100, 97, 121]⟩ else if k = 6 then ⟨#[115, 97, 116, 117, 114, 100, 97, 121]⟩ else ⟨#[]⟩
theorem seven {k : Int} (h0 : 0 ≤ k) (h6 : k ≤ 6) : k = 0 ∨ k = 1 ∨ k = 2 ∨ k = 3 ∨ k = 4 ∨ k = 5 ∨ k = 6 := by omega
theorem ret_str {a b : ByteArray} (h : a = b) : Ending.returned (.string a) = .returned (.string b) := by rw [h]
theorem vName_out {k : Int} (h : k < 0 ∨ 6 < k) : vName k = ⟨#[]⟩ := by unfold vName; repeat rw [if_neg (by omega)]

set_option maxHeartbeats 1000000 in
theorem name_c (k : Int) (w : World) (hn : Hid (NamesIn w)) : Calls Tryd.prog 17 #[.int .i64 k] w fun e w' => e = .returned (.string (vName k)) ∧ w = w' := by
  by_cases h0 : k < 0
  · have HV := Lib.hid (vName_out (.inl h0))
    go_enter Tryd.func17, Tryd.ntmps17
    go_wp2
    go_ret
    exact ⟨ret_str HV.out.symm, rfl⟩
  by_cases h6 : 6 < k
  · have HV := Lib.hid (vName_out (.inr h6))
    go_enter Tryd.func17, Tryd.ntmps17
    go_wp2
    go_ret
    exact ⟨ret_str HV.out.symm, rfl⟩
  obtain ⟨_, a0, a1, a2, a3, a4, a5, a6⟩ := hn.out
  rcases seven (show 0 ≤ k by omega) (by omega) with rfl | rfl | rfl | rfl | rfl | rfl | rfl
  all_goals
    go_enter Tryd.func17, Tryd.ntmps17
    go_wp2
    go_ret
    exact ⟨rfl, rfl⟩

set_option maxHeartbeats 1000000 in
theorem rname_c (k : Int) (w : World) : Calls Tryd.prog 18 #[.int .i64 k] w fun e w' => e = .returned (.string (vName k)) ∧ w = w' := by
  by_cases h : k < 0 ∨ 6 < k
  · have HV := Lib.hid (vName_out h)
    have b0 : (k == 0) = false := by simp; omega
    have b1 : (k == 1) = false := by simp; omega
    have b2 : (k == 2) = false := by simp; omega
    have b3 : (k == 3) = false := by simp; omega
    have b4 : (k == 4) = false := by simp; omega
    have b5 : (k == 5) = false := by simp; omega
    have b6 : (k == 6) = false := by simp; omega
    clear h
    go_enter Tryd.func18, Tryd.ntmps18
    go_wp2
    go_ret
    exact ⟨ret_str HV.out.symm, rfl⟩
  rcases seven (show 0 ≤ k by omega) (by omega) with rfl | rfl | rfl | rfl | rfl | rfl | rfl
  all_goals
    clear h
    go_enter Tryd.func18, Tryd.ntmps18
    go_wp2
    go_ret
    exact ⟨rfl, rfl⟩

def nameL : Nat → List UInt8
  | 0 => [115, 117, 110, 100, 97, 121]
  | 1 => [109, 111, 110, 100, 97, 121]
  | 2 => [116, 117, 101, 115, 100, 97, 121]
  | 3 => [119, 101, 100, 110, 101, 115, 100, 97, 121]
  | 4 => [116, 104, 117, 114, 115, 100, 97, 121]
  | 5 => [102, 114, 105, 100, 97, 121]
  | 6 => [115, 97, 116, 117, 114, 100, 97, 121]
  | _ => []
def vFind (l : List UInt8) : Int := if (nameL 0 == l) = true then 0 else if (nameL 1 == l) = true then 1 else if (nameL 2 == l) = true then 2 else if (nameL 3 == l) = true then 3 else if (nameL 4 == l) = true then 4 else if (nameL 5 == l) = true then 5 else if (nameL 6 == l) = true then 6 else -1
def NotYet (k : Nat) (l : List UInt8) : Prop := ∀ j, j < k → (nameL j == l) = false
theorem NotYet.step {k : Nat} {l : List UInt8} (h : NotYet k l) (g : (nameL k == l) = false) : NotYet (k + 1) l := by
  intro j hj
  by_cases e : j = k
  · subst e; exact g
  · exact h j (by omega)
theorem find_at {k : Nat} {l : List UInt8} (hk : k < 7) (h : NotYet k l) (g : (nameL k == l) = true) : vFind l = (k : Int) := by
  unfold vFind
  match k, hk, h, g with
  | 0, _, h, g => rw [if_pos g]; rfl
  | 1, _, h, g => rw [if_neg (by rw [h 0 (by omega)]; decide)]; rw [if_pos g]; rfl
  | 2, _, h, g => rw [if_neg (by rw [h 0 (by omega)]; decide)]; rw [if_neg (by rw [h 1 (by omega)]; decide)]; rw [if_pos g]; rfl
  | 3, _, h, g => rw [if_neg (by rw [h 0 (by omega)]; decide)]; rw [if_neg (by rw [h 1 (by omega)]; decide)]; rw [if_neg (by rw [h 2 (by omega)]; decide)]; rw [if_pos g]; rfl
  | 4, _, h, g => rw [if_neg (by rw [h 0 (by omega)]; decide)]; rw [if_neg (by rw [h 1 (by omega)]; decide)]; rw [if_neg (by rw [h 2 (by omega)]; decide)]; rw [if_neg (by rw [h 3 (by omega)]; decide)]; rw [if_pos g]; rfl
  | 5, _, h, g => rw [if_neg (by rw [h 0 (by omega)]; decide)]; rw [if_neg (by rw [h 1 (by omega)]; decide)]; rw [if_neg (by rw [h 2 (by omega)]; decide)]; rw [if_neg (by rw [h 3 (by omega)]; decide)]; rw [if_neg (by rw [h 4 (by omega)]; decide)]; rw [if_pos g]; rfl
  | 6, _, h, g => rw [if_neg (by rw [h 0 (by omega)]; decide)]; rw [if_neg (by rw [h 1 (by omega)]; decide)]; rw [if_neg (by rw [h 2 (by omega)]; decide)]; rw [if_neg (by rw [h 3 (by omega)]; decide)]; rw [if_neg (by rw [h 4 (by omega)]; decide)]; rw [if_neg (by rw [h 5 (by omega)]; decide)]; rw [if_pos g]; rfl
theorem find_none {l : List UInt8} (h : NotYet 7 l) : vFind l = -1 := by
  unfold vFind
  rw [if_neg (by rw [h 0 (by omega)]; decide)]; rw [if_neg (by rw [h 1 (by omega)]; decide)]; rw [if_neg (by rw [h 2 (by omega)]; decide)]; rw [if_neg (by rw [h 3 (by omega)]; decide)]; rw [if_neg (by rw [h 4 (by omega)]; decide)]; rw [if_neg (by rw [h 5 (by omega)]; decide)]; rw [if_neg (by rw [h 6 (by omega)]; decide)]

set_option maxHeartbeats 1000000 in
theorem find_c (s : ByteArray) (w : World) (hn : Hid (NamesIn w)) : Calls Tryd.prog 19 #[.string s] w fun e w' => e = .returned (.int .i64 (vFind s.toList)) ∧ w = w' := by
  obtain ⟨_, a0, a1, a2, a3, a4, a5, a6⟩ := hn.out
  go_enter Tryd.func19, Tryd.ntmps19
  go_wp2_with fail
  clear a0 a1 a2 a3 a4 a5 a6
  have i0 : ∀ w, (Instr.index 43 (.agg #[.string ⟨#[115, 117, 110, 100, 97, 121]⟩, .string ⟨#[109, 111, 110, 100, 97, 121]⟩, .string ⟨#[116, 117, 101, 115, 100, 97, 121]⟩, .string ⟨#[119, 101, 100, 110, 101, 115, 100, 97, 121]⟩, .string ⟨#[116, 104, 117, 114, 115, 100, 97, 121]⟩, .string ⟨#[102, 114, 105, 100, 97, 121]⟩, .string ⟨#[115, 97, 116, 117, 114, 100, 97, 121]⟩]) (.int .i64 0)).run Tryd.prog w = .ok (.string ⟨#[115, 117, 110, 100, 97, 121]⟩) w := fun _ => by kernel_rfl
  have i1 : ∀ w, (Instr.index 43 (.agg #[.string ⟨#[115, 117, 110, 100, 97, 121]⟩, .string ⟨#[109, 111, 110, 100, 97, 121]⟩, .string ⟨#[116, 117, 101, 115, 100, 97, 121]⟩, .string ⟨#[119, 101, 100, 110, 101, 115, 100, 97, 121]⟩, .string ⟨#[116, 104, 117, 114, 115, 100, 97, 121]⟩, .string ⟨#[102, 114, 105, 100, 97, 121]⟩, .string ⟨#[115, 97, 116, 117, 114, 100, 97, 121]⟩]) (.int .i64 1)).run Tryd.prog w = .ok (.string ⟨#[109, 111, 110, 100, 97, 121]⟩) w := fun _ => by kernel_rfl
  have i2 : ∀ w, (Instr.index 43 (.agg #[.string ⟨#[115, 117, 110, 100, 97, 121]⟩, .string ⟨#[109, 111, 110, 100, 97, 121]⟩, .string ⟨#[116, 117, 101, 115, 100, 97, 121]⟩, .string ⟨#[119, 101, 100, 110, 101, 115, 100, 97, 121]⟩, .string ⟨#[116, 104, 117, 114, 115, 100, 97, 121]⟩, .string ⟨#[102, 114, 105, 100, 97, 121]⟩, .string ⟨#[115, 97, 116, 117, 114, 100, 97, 121]⟩]) (.int .i64 2)).run Tryd.prog w = .ok (.string ⟨#[116, 117, 101, 115, 100, 97, 121]⟩) w := fun _ => by kernel_rfl
  have i3 : ∀ w, (Instr.index 43 (.agg #[.string ⟨#[115, 117, 110, 100, 97, 121]⟩, .string ⟨#[109, 111, 110, 100, 97, 121]⟩, .string ⟨#[116, 117, 101, 115, 100, 97, 121]⟩, .string ⟨#[119, 101, 100, 110, 101, 115, 100, 97, 121]⟩, .string ⟨#[116, 104, 117, 114, 115, 100, 97, 121]⟩, .string ⟨#[102, 114, 105, 100, 97, 121]⟩, .string ⟨#[115, 97, 116, 117, 114, 100, 97, 121]⟩]) (.int .i64 3)).run Tryd.prog w = .ok (.string ⟨#[119, 101, 100, 110, 101, 115, 100, 97, 121]⟩) w := fun _ => by kernel_rfl
  have i4 : ∀ w, (Instr.index 43 (.agg #[.string ⟨#[115, 117, 110, 100, 97, 121]⟩, .string ⟨#[109, 111, 110, 100, 97, 121]⟩, .string ⟨#[116, 117, 101, 115, 100, 97, 121]⟩, .string ⟨#[119, 101, 100, 110, 101, 115, 100, 97, 121]⟩, .string ⟨#[116, 104, 117, 114, 115, 100, 97, 121]⟩, .string ⟨#[102, 114, 105, 100, 97, 121]⟩, .string ⟨#[115, 97, 116, 117, 114, 100, 97, 121]⟩]) (.int .i64 4)).run Tryd.prog w = .ok (.string ⟨#[116, 104, 117, 114, 115, 100, 97, 121]⟩) w := fun _ => by kernel_rfl
  have i5 : ∀ w, (Instr.index 43 (.agg #[.string ⟨#[115, 117, 110, 100, 97, 121]⟩, .string ⟨#[109, 111, 110, 100, 97, 121]⟩, .string ⟨#[116, 117, 101, 115, 100, 97, 121]⟩, .string ⟨#[119, 101, 100, 110, 101, 115, 100, 97, 121]⟩, .string ⟨#[116, 104, 117, 114, 115, 100, 97, 121]⟩, .string ⟨#[102, 114, 105, 100, 97, 121]⟩, .string ⟨#[115, 97, 116, 117, 114, 100, 97, 121]⟩]) (.int .i64 5)).run Tryd.prog w = .ok (.string ⟨#[102, 114, 105, 100, 97, 121]⟩) w := fun _ => by kernel_rfl
  have i6 : ∀ w, (Instr.index 43 (.agg #[.string ⟨#[115, 117, 110, 100, 97, 121]⟩, .string ⟨#[109, 111, 110, 100, 97, 121]⟩, .string ⟨#[116, 117, 101, 115, 100, 97, 121]⟩, .string ⟨#[119, 101, 100, 110, 101, 115, 100, 97, 121]⟩, .string ⟨#[116, 104, 117, 114, 115, 100, 97, 121]⟩, .string ⟨#[102, 114, 105, 100, 97, 121]⟩, .string ⟨#[115, 97, 116, 117, 114, 100, 97, 121]⟩]) (.int .i64 6)).run Tryd.prog w = .ok (.string ⟨#[115, 97, 116, 117, 114, 100, 97, 121]⟩) w := fun _ => by kernel_rfl
  go_loop [6] (fun i => ∃ k : Nat, k ≤ 7 ∧ i = .int .i64 k ∧ Hid (NotYet k s.toList)) (fun i => 7 - (intOf i).toNat)
  case atStart => exact ⟨0, by omega, rfl, fun j hj => by omega⟩
  case round =>
    obtain ⟨k, hk, rfl, HN⟩ := hrel
    obtain rfl | rfl | rfl | rfl | rfl | rfl | rfl | rfl : k = 0 ∨ k = 1 ∨ k = 2 ∨ k = 3 ∨ k = 4 ∨ k = 5 ∨ k = 6 ∨ k = 7 := by omega
    · go_wp2_with fail
      · go_ret
        exact ⟨ret_int (Eq.symm <| find_at (k := 0) (by omega) HN.out ‹_›), rfl⟩
      · exact ⟨⟨1, by omega, rfl, HN.out.step ‹_›⟩, by simp [intOf]⟩
    · go_wp2_with fail
      · go_ret
        exact ⟨ret_int (Eq.symm <| find_at (k := 1) (by omega) HN.out ‹_›), rfl⟩
      · exact ⟨⟨2, by omega, rfl, HN.out.step ‹_›⟩, by simp [intOf]⟩
    · go_wp2_with fail
      · go_ret
        exact ⟨ret_int (Eq.symm <| find_at (k := 2) (by omega) HN.out ‹_›), rfl⟩
      · exact ⟨⟨3, by omega, rfl, HN.out.step ‹_›⟩, by simp [intOf]⟩
    · go_wp2_with fail
      · go_ret
        exact ⟨ret_int (Eq.symm <| find_at (k := 3) (by omega) HN.out ‹_›), rfl⟩
      · exact ⟨⟨4, by omega, rfl, HN.out.step ‹_›⟩, by simp [intOf]⟩
    · go_wp2_with fail
      · go_ret
        exact ⟨ret_int (Eq.symm <| find_at (k := 4) (by omega) HN.out ‹_›), rfl⟩
      · exact ⟨⟨5, by omega, rfl, HN.out.step ‹_›⟩, by simp [intOf]⟩
    · go_wp2_with fail
      · go_ret
        exact ⟨ret_int (Eq.symm <| find_at (k := 5) (by omega) HN.out ‹_›), rfl⟩
      · exact ⟨⟨6, by omega, rfl, HN.out.step ‹_›⟩, by simp [intOf]⟩
    · go_wp2_with fail
      · go_ret
        exact ⟨ret_int (Eq.symm <| find_at (k := 6) (by omega) HN.out ‹_›), rfl⟩
      · exact ⟨⟨7, by omega, rfl, HN.out.step ‹_›⟩, by simp [intOf]⟩
    · go_wp2_with fail
      go_ret
      exact ⟨ret_int (find_none HN.out).symm, rfl⟩

set_option maxHeartbeats 1000000 in
theorem rfind_c (s : ByteArray) (w : World) : Calls Tryd.prog 20 #[.string s] w fun e w' => e = .returned (.int .i64 (vFind s.toList)) ∧ w = w' := by
  go_enter Tryd.func20, Tryd.ntmps20
  go_wp2_with fail
  go_loop [3] (fun i => ∃ k : Nat, k ≤ 7 ∧ i = .int .i64 k ∧ Hid (NotYet k s.toList)) (fun i => 7 - (intOf i).toNat)
  case atStart => exact ⟨0, by omega, rfl, fun j hj => by omega⟩
  case round =>
    obtain ⟨k, hk, rfl, HN⟩ := hrel
    obtain rfl | rfl | rfl | rfl | rfl | rfl | rfl | rfl : k = 0 ∨ k = 1 ∨ k = 2 ∨ k = 3 ∨ k = 4 ∨ k = 5 ∨ k = 6 ∨ k = 7 := by omega
    · go_wp2_with (go_at_call 18; refine (rname_c _ _).mono ?_; rintro e w' ⟨rfl, rfl⟩; rw [show vName 0 = ⟨#[115, 117, 110, 100, 97, 121]⟩ from rfl])
      · go_ret
        exact ⟨ret_int (Eq.symm <| find_at (k := 0) (by omega) HN.out ‹_›), rfl⟩
      · exact ⟨⟨1, by omega, rfl, HN.out.step ‹_›⟩, by simp [intOf]⟩
    · go_wp2_with (go_at_call 18; refine (rname_c _ _).mono ?_; rintro e w' ⟨rfl, rfl⟩; rw [show vName 1 = ⟨#[109, 111, 110, 100, 97, 121]⟩ from rfl])
      · go_ret
        exact ⟨ret_int (Eq.symm <| find_at (k := 1) (by omega) HN.out ‹_›), rfl⟩
      · exact ⟨⟨2, by omega, rfl, HN.out.step ‹_›⟩, by simp [intOf]⟩
    · go_wp2_with (go_at_call 18; refine (rname_c _ _).mono ?_; rintro e w' ⟨rfl, rfl⟩; rw [show vName 2 = ⟨#[116, 117, 101, 115, 100, 97, 121]⟩ from rfl])
      · go_ret
        exact ⟨ret_int (Eq.symm <| find_at (k := 2) (by omega) HN.out ‹_›), rfl⟩
      · exact ⟨⟨3, by omega, rfl, HN.out.step ‹_›⟩, by simp [intOf]⟩
    · go_wp2_with (go_at_call 18; refine (rname_c _ _).mono ?_; rintro e w' ⟨rfl, rfl⟩; rw [show vName 3 = ⟨#[119, 101, 100, 110, 101, 115, 100, 97, 121]⟩ from rfl])
      · go_ret
        exact ⟨ret_int (Eq.symm <| find_at (k := 3) (by omega) HN.out ‹_›), rfl⟩
      · exact ⟨⟨4, by omega, rfl, HN.out.step ‹_›⟩, by simp [intOf]⟩
    · go_wp2_with (go_at_call 18; refine (rname_c _ _).mono ?_; rintro e w' ⟨rfl, rfl⟩; rw [show vName 4 = ⟨#[116, 104, 117, 114, 115, 100, 97, 121]⟩ from rfl])
      · go_ret
        exact ⟨ret_int (Eq.symm <| find_at (k := 4) (by omega) HN.out ‹_›), rfl⟩
      · exact ⟨⟨5, by omega, rfl, HN.out.step ‹_›⟩, by simp [intOf]⟩
    · go_wp2_with (go_at_call 18; refine (rname_c _ _).mono ?_; rintro e w' ⟨rfl, rfl⟩; rw [show vName 5 = ⟨#[102, 114, 105, 100, 97, 121]⟩ from rfl])
      · go_ret
        exact ⟨ret_int (Eq.symm <| find_at (k := 5) (by omega) HN.out ‹_›), rfl⟩
      · exact ⟨⟨6, by omega, rfl, HN.out.step ‹_›⟩, by simp [intOf]⟩
    · go_wp2_with (go_at_call 18; refine (rname_c _ _).mono ?_; rintro e w' ⟨rfl, rfl⟩; rw [show vName 6 = ⟨#[115, 97, 116, 117, 114, 100, 97, 121]⟩ from rfl])
      · go_ret
        exact ⟨ret_int (Eq.symm <| find_at (k := 6) (by omega) HN.out ‹_›), rfl⟩
      · exact ⟨⟨7, by omega, rfl, HN.out.step ‹_›⟩, by simp [intOf]⟩
    · go_wp2_with fail
      go_ret
      exact ⟨ret_int (find_none HN.out).symm, rfl⟩

set_option maxHeartbeats 1000000 in
theorem awake_c (w : World) (hn : Hid (NamesIn w)) : Calls Tryd.prog 8 #[] w fun e w' => e = .returned (.bool true) ∧ Below w.heap.size w w' := by
  go_enter Tryd.func8, Tryd.ntmps8
  go_wp2_with fail
  refine (after_c 730120 0 _).mono ?_; rintro e w1 ⟨rfl, h1⟩; rw [show vAfter 730120 0 = 730121 from by decide, show vErr 730120 0 = 0 from by decide]
  go_wp2_with fail
  refine (nth_c 730120 6 2 _).mono ?_; rintro e w2 ⟨rfl, h2⟩; replace h2 := chain h1 h2; clear h1; rw [show vNth 730120 6 2 = 730127 from by decide, show vNthE 730120 6 2 = 0 from by decide]
  go_wp2_with fail
  refine (nth_c 730120 6 0 _).mono ?_; rintro e w3 ⟨rfl, h3⟩; replace h3 := chain h2 h3; clear h2; rw [show vNth 730120 6 0 = 0 from by decide, show vNthE 730120 6 0 = 3 from by decide]
  go_wp2_with fail
  refine (of_c 730120 _ (by omega) (by omega)).mono ?_; rintro e w4 ⟨rfl, h4⟩; replace h4 := chain h3 h4; clear h3; rw [show (730120 : Int) % 7 = 6 from by decide]
  go_wp2_with fail
  have HN : Hid (NamesIn w4) := Lib.hid (hn.out.below h4)
  refine (name_c 6 _ HN).mono ?_; rintro e w5 ⟨rfl, rfl⟩; rw [show vName 6 = ⟨#[115, 97, 116, 117, 114, 100, 97, 121]⟩ from rfl]
  go_wp2_with fail
  refine (find_c _ _ HN).mono ?_; rintro e w5 ⟨rfl, rfl⟩; rw [show vFind (ByteArray.mk #[109, 111, 110, 100, 97, 121]).toList = 1 from by decide +kernel]
  go_wp2_with fail
  refine (find_c _ _ HN).mono ?_; rintro e w5 ⟨rfl, rfl⟩; rw [show vFind (ByteArray.mk #[]).toList = -1 from by decide +kernel]
  go_wp2_with fail
  go_ret
  exact ⟨rfl, h4⟩
end Go.Proofs.YtckkllbnmnpafaaDoor
