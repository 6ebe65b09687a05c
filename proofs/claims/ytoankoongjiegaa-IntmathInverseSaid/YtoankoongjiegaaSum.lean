/-
  Contracts of both Sum functions, for every slice of 64-bit integers that memory holds, and of the law's 'awake', which returns true.
-/
import Derived.Test.YtoankoongjiegaaBase2
import Derived.LoopTactic
namespace Go.Proofs.Ytoankoongjiegaa
open Go.RowKit
set_option linter.unusedVariables false
def sumL : Int → List Int → Int × Bool
  | s, [] => (s, true)
  | s, x :: t => if in64 (s + x) = true then sumL (s + x) t else (0, false)
theorem sumL_step {s x : Int} {t : List Int} (h : in64 (s + x) = true) : sumL s (x :: t) = sumL (s + x) t := by simp [sumL, h]
theorem sumL_stop {s x : Int} {t : List Int} (h : in64 (s + x) = false) : sumL s (x :: t) = (0, false) := by simp [sumL, h]
theorem drop_at {L : List Int} {k : Nat} (h : k < L.length) : L.drop k = L.getD k 0 :: L.drop (k + 1) := by
  rw [List.drop_eq_getElem_cons h]; simp [List.getD_eq_getElem?_getD, h]
theorem ret_pair {s : Int × Bool} {a : Int} {b : Bool} (h : s = (a, b)) : Ending.returned (.tuple #[.int .i64 a, .bool b]) = .returned (.tuple #[.int .i64 s.1, .bool s.2]) := by rw [h]
theorem vIf_not {n : Int} (h : in64 n = false) : vIf n = 0 := by unfold vIf; rw [h]; rfl
theorem vIf_of {n : Int} (h : in64 n = true) : vIf n = n := by unfold vIf; rw [if_pos h]

set_option maxHeartbeats 400000 in
theorem sum_c (bl off cap : Nat) (L : List Int) (w : World) (hb : bl < w.heap.size) (hn : L.length ≤ 9223372036854775807) (hr : ∀ i, i < L.length → -9223372036854775808 ≤ L.getD i 0 ∧ L.getD i 0 ≤ 9223372036854775807) (hc : ∀ i, i < L.length → w.cell? ⟨bl, off + i, none⟩ = some (.int .i64 (L.getD i 0))) :
    Calls Try.prog 21 #[.slice (some ⟨bl, off, none⟩) L.length cap] w fun e w' => e = .returned (.tuple #[.int .i64 (sumL 0 L).1, .bool (sumL 0 L).2]) ∧ Below w.heap.size w w' := by
  have HR := Lib.hid hr
  have HC := Lib.hid hc
  clear hr hc
  go_enter Try.func21, Try.ntmps21
  go_wp2_with fail
  go_loopw [4, 5, 10] (fun s o i wr => ∃ (k : Nat) (z : Int), k ≤ L.length ∧ i = .int .i64 k ∧ s = .int .i64 z ∧ o = .bool true ∧ -9223372036854775808 ≤ z ∧ z ≤ 9223372036854775807 ∧ Hid (sumL 0 L = sumL z (L.drop k)) ∧ Below w.heap.size w wr) (fun _ _ i _ => L.length - (intOf i).toNat)
  case atStart => exact ⟨0, 0, Nat.zero_le _, rfl, rfl, rfl, by omega, by omega, rfl, Below.refl _ _⟩
  case round =>
    obtain ⟨k, z, hk, rfl, rfl, rfl, hz1, hz2, HE, hbel⟩ := hrel
    by_cases hlt : k < L.length
    · have hcell : wr.cell? ⟨bl, off + k, none⟩ = some (.int .i64 (L.getD k 0)) := (hbel.cell (by exact hb)).trans (HC.out k hlt)
      obtain ⟨hx1, hx2⟩ := HR.out k hlt
      generalize hx : L.getD k 0 = x at *
      have HX := Lib.hid hx
      clear hx
      have HD := Lib.hid (drop_at hlt)
      cases hs : in64 (z + x)
      · have HS := Lib.hid hs
        clear hs
        go_wp2_with (go_at_call 16; refine (add_c _ _ _ hz1 hz2 hx1 hx2).mono ?_; rintro e w' ⟨rfl, hb2⟩; rw [HS.out])
        go_ret2
        exact ⟨ret_pair (by rw [HE.out, HD.out, HX.out, sumL_stop HS.out]), hbel.trans (hb2.mono hbel.size)⟩
      · have HS := Lib.hid hs
        obtain ⟨hy1, hy2⟩ := in64_iff.1 hs
        clear hs
        go_wp2_with (go_at_call 16; refine (add_c _ _ _ hz1 hz2 hx1 hx2).mono ?_; rintro e w' ⟨rfl, hb2⟩; rw [HS.out, vIf_of HS.out])
        go_roundw
        case rel => exact ⟨k + 1, z + x, by omega, by go_num, rfl, rfl, hy1, hy2, by show _ = _; rw [HE.out, HD.out, HX.out, sumL_step HS.out], hbel.trans (hb2.mono hbel.size)⟩
        case measure => simp [intOf]; omega
    · have HD := Lib.hid (List.drop_eq_nil_of_le (show L.length ≤ k by omega))
      go_wp2_with fail
      go_ret2
      exact ⟨ret_pair (by rw [HE.out, HD.out]; rfl), hbel⟩

set_option maxHeartbeats 400000 in
theorem sum_nil (a : Option Addr) (c : Nat) (w : World) : Calls Try.prog 21 #[.slice a 0 c] w fun e w' => e = .returned (.tuple #[.int .i64 0, .bool true]) ∧ Below w.heap.size w w' := by
  go_enter Try.func21, Try.ntmps21
  go_wp2_with fail
  go_loopw [4, 5, 10] (fun s o i wr => i = .int .i64 0 ∧ s = .int .i64 0 ∧ o = .bool true ∧ wr = w) (fun _ _ i _ => 0)
  case atStart => exact ⟨rfl, rfl, rfl, rfl⟩
  case round =>
    obtain ⟨rfl, rfl, rfl, rfl⟩ := hrel
    go_wp2_with fail
    go_ret2
    exact ⟨rfl, Below.refl _ _⟩

set_option maxHeartbeats 400000 in
theorem rsum_c (bl off cap : Nat) (L : List Int) (w : World) (hb : bl < w.heap.size) (hn : L.length ≤ 9223372036854775807) (hr : ∀ i, i < L.length → -9223372036854775808 ≤ L.getD i 0 ∧ L.getD i 0 ≤ 9223372036854775807) (hc : ∀ i, i < L.length → w.cell? ⟨bl, off + i, none⟩ = some (.int .i64 (L.getD i 0))) :
    Calls Try.prog 22 #[.slice (some ⟨bl, off, none⟩) L.length cap] w fun e w' => e = .returned (.tuple #[.int .i64 (sumL 0 L).1, .bool (sumL 0 L).2]) ∧ w = w' := by
  have HR := Lib.hid hr
  have HC := Lib.hid hc
  clear hr hc
  go_enter Try.func22, Try.ntmps22
  go_wp2_with fail
  go_loop [4, 5] (fun s i => ∃ (k : Nat) (z : Int), k ≤ L.length ∧ i = .int .i64 k ∧ s = .int .i64 z ∧ -9223372036854775808 ≤ z ∧ z ≤ 9223372036854775807 ∧ Hid (sumL 0 L = sumL z (L.drop k))) (fun _ i => L.length - (intOf i).toNat)
  case atStart => exact ⟨0, 0, Nat.zero_le _, rfl, rfl, by omega, by omega, rfl⟩
  case round =>
    obtain ⟨k, z, hk, rfl, rfl, hz1, hz2, HE⟩ := hrel
    by_cases hlt : k < L.length
    · have hcell : w.cell? ⟨bl, off + k, none⟩ = some (.int .i64 (L.getD k 0)) := HC.out k hlt
      obtain ⟨hx1, hx2⟩ := HR.out k hlt
      generalize hx : L.getD k 0 = x at *
      have HX := Lib.hid hx
      clear hx
      have HD := Lib.hid (drop_at hlt)
      cases hs : in64 (z + x)
      · have HS := Lib.hid hs
        clear hs
        go_wp2_with (go_at_call 8; refine (adds_c _ _ _ ⟨hx1, hx2⟩ ⟨hz1, hz2⟩).mono ?_; rintro e w' ⟨rfl, rfl⟩; rw [HS.out])
        go_ret2
        exact ⟨ret_pair (by rw [HE.out, HD.out, HX.out, sumL_stop HS.out]), rfl⟩
      · have HS := Lib.hid hs
        obtain ⟨hy1, hy2⟩ := in64_iff.1 hs
        clear hs
        go_wp2_with (go_at_call 8; refine (adds_c _ _ _ ⟨hx1, hx2⟩ ⟨hz1, hz2⟩).mono ?_; rintro e w' ⟨rfl, rfl⟩; rw [HS.out])
        go_round
        case rel => exact ⟨k + 1, z + x, by omega, by go_num, rfl, hy1, hy2, by show _ = _; rw [HE.out, HD.out, HX.out, sumL_step HS.out]⟩
        case measure => simp [intOf]; omega
    · have HD := Lib.hid (List.drop_eq_nil_of_le (show L.length ≤ k by omega))
      go_wp2_with fail
      go_ret2
      exact ⟨ret_pair (by rw [HE.out, HD.out]; rfl), rfl⟩

set_option maxHeartbeats 400000 in
theorem rsum_nil (a : Option Addr) (c : Nat) (w : World) : Calls Try.prog 22 #[.slice a 0 c] w fun e w' => e = .returned (.tuple #[.int .i64 0, .bool true]) ∧ w = w' := by
  go_enter Try.func22, Try.ntmps22
  go_wp2_with fail
  go_loop [4, 5] (fun s i => i = .int .i64 0 ∧ s = .int .i64 0) (fun _ i => 0)
  case atStart => exact ⟨rfl, rfl⟩
  case round =>
    obtain ⟨rfl, rfl⟩ := hrel
    go_wp2_with fail
    go_ret2
    exact ⟨rfl, rfl⟩

theorem chain {w w1 w2 : World} (h : Below w.heap.size w w1) (g : Below w1.heap.size w1 w2) : Below w.heap.size w w2 := h.trans (g.mono h.size)
theorem chain_alloc {w w1 w2 : World} {o : Obj} (h : Below w.heap.size w w1) (g : Below (w1.alloc o).heap.size (w1.alloc o) w2) : Below w.heap.size w w2 := (h.alloc h.size o).trans (g.mono (by simp; have := h.size; omega))

set_option maxHeartbeats 400000 in
theorem awake_c (w : World) : Calls Try.prog 7 #[] w fun e w' => e = .returned (.bool true) ∧ Below w.heap.size w w' := by
  go_enter Try.func7, Try.ntmps7
  go_wp2_with fail
  refine (div_c (-7) 2 _ (by omega) (by omega) (by omega) (by omega)).mono ?_; rintro e w1 ⟨rfl, h1⟩; rw [show vDiv (-7) 2 = -4 from by decide, show spl (-7) 2 = true from by decide]
  go_wp2_with fail
  refine (mod_c (-7) 2 _ (by omega) (by omega) (by omega) (by omega)).mono ?_; rintro e w2 ⟨rfl, h2⟩; replace h2 := chain h1 h2; clear h1; rw [show vMod (-7) 2 = 1 from by decide, show spl (-7) 2 = true from by decide]
  go_wp2_with fail
  refine (div_c 7 (-2) _ (by omega) (by omega) (by omega) (by omega)).mono ?_; rintro e w3 ⟨rfl, h3⟩; replace h3 := chain h2 h3; clear h2; rw [show vDiv 7 (-2) = -4 from by decide, show spl 7 (-2) = true from by decide]
  go_wp2_with fail
  refine (mod_c 7 (-2) _ (by omega) (by omega) (by omega) (by omega)).mono ?_; rintro e w4 ⟨rfl, h4⟩; replace h4 := chain h3 h4; clear h3; rw [show vMod 7 (-2) = -1 from by decide, show spl 7 (-2) = true from by decide]
  go_wp2_with fail
  refine (div_c 1 0 _ (by omega) (by omega) (by omega) (by omega)).mono ?_; rintro e w5 ⟨rfl, h5⟩; replace h5 := chain h4 h5; clear h4; rw [show vDiv 1 0 = 0 from by decide, show spl 1 0 = false from by decide]
  go_wp2_with fail
  refine (add_c 9223372036854775807 1 _ (by omega) (by omega) (by omega) (by omega)).mono ?_; rintro e w6 ⟨rfl, h6⟩; replace h6 := chain h5 h6; clear h5; rw [show vIf (9223372036854775807 + 1) = 0 from by decide, show in64 (9223372036854775807 + 1) = false from by decide]
  go_wp2_with fail
  refine (sum_c w6.heap.size 0 3 [1, 2, 3] _ (by simp) (by simp) (by intro i hi; match i, hi with | 0, _ => simp | 1, _ => simp | 2, _ => simp) ?_).mono ?_
  · intro i hi
    match i, hi with
    | 0, _ => simp [go_sem]
    | 1, _ => simp [go_sem]
    | 2, _ => simp [go_sem]
  rintro e w7 ⟨rfl, h7⟩; replace h7 := chain_alloc h6 h7; clear h6; rw [show (sumL 0 [1, 2, 3]).1 = 6 from by decide, show (sumL 0 [1, 2, 3]).2 = true from by decide]
  go_wp2_with fail
  refine (clamp_c 9 1 5 _).mono ?_; rintro e w8 ⟨rfl, rfl⟩; rw [show vClamp 9 1 5 = 5 from by decide]
  go_wp2_with fail
  go_ret
  exact ⟨rfl, h7⟩
end Go.Proofs.Ytoankoongjiegaa
