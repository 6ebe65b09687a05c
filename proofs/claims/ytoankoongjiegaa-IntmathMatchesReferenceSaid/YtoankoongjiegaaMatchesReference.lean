/-
  The law 'IntmathMatchesReference' answers true for every input, and each argument reads afterwards as it read before. No condition.
  The frame was written by the kit's proof-skeleton; the walk is ours.
-/
import Derived.Test.YtoankoongjiegaaRows
import Derived.Test.YtoankoongjiegaaSum
import Derived.WalkKit
import Derived.ProofKit
import Derived.OpenShut
import Derived.ShutString
import Derived.ChangeOld
import Derived.Below
namespace Go.Proofs.Ytoankoongjiegaa.intmathMatchesReference
open Go.ChangeShapes Go.WideShapes Go.ChangeAt Go.RowKit
open Go.ChangeMaps (open_string shut_string)
set_option linter.unusedVariables false

theorem own : ownKnob Try.prog.godebug = none := by kernel_rfl
theorem laidOut : laidOutB Try.prog = true := by kernel_rfl

/-- WHAT THE WALK IS TOLD OF A SLICE OF INTEGERS THAT CAME IN: it is nil; or it leads to a row of 'cap' cells, the numbers 'zs' (the first 'len' are its elements, the rest its spare room), each fitting its kind. -/
def IsRow (k : IntKind) (w : World) (a : Option Addr) (len cap : Nat) (zs : List Int) : Prop :=
  (a = none ∧ len = 0 ∧ cap = 0 ∧ zs = []) ∨
  ∃ x, a = some x ∧ len ≤ cap ∧ cap ≤ maxLen ∧ zs.length = cap ∧ (∀ i, i < zs.length → w.cell? (x.add i) = some (.int k (zs.getD i 0))) ∧ ∀ n ∈ zs, (Lit.int k n).wf = true

theorem resB_yes (q : Int) : resB q true q true = true := by simp [resB]
theorem resB_no (m : Int) : resB 0 false m false = true := by simp [resB]
theorem resB_if (n : Int) : resB (vIf n) (in64 n) (wrap64 n) (in64 n) = true := by
  cases h : in64 n
  · rw [vIf_not h]; exact resB_no _
  · rw [vIf_of h, (in64_wrap n).1 h]; exact resB_yes _

/-- What both Sum functions are known to answer over the slice that came in, in each later world. -/
def SumsAre (a : Option Addr) (len cap : Nat) (w : World) (x : Int) (p : Bool) : Prop :=
    (∀ w1, Below w.heap.size w w1 → Calls Try.prog 21 #[.slice a len cap] w1 fun e w' => e = .returned (.tuple #[.int .i64 x, .bool p]) ∧ Below w1.heap.size w1 w') ∧
    (∀ w1, Below w.heap.size w w1 → Calls Try.prog 22 #[.slice a len cap] w1 fun e w' => e = .returned (.tuple #[.int .i64 x, .bool p]) ∧ w1 = w')

theorem sums_any (a : Option Addr) (len cap : Nat) (zs : List Int) (w : World) (h : IsRow .i64 w a len cap zs) : ∃ (x : Int) (p : Bool), SumsAre a len cap w x p := by
  by_cases h0 : len = 0
  · subst h0
    exact ⟨0, true, fun w1 _ => sum_nil _ _ _, fun w1 _ => rsum_nil _ _ _⟩
  · rcases h with ⟨_, h, _⟩ | ⟨x, rfl, hl, hm, hz, hcell, hwz⟩
    · exact absurd h h0
    · obtain ⟨b, off, spot⟩ := x
      have hc := hcell 0 (by omega)
      have hspot : spot = none := by simpa [Addr.add] using World.cell?_spot hc
      subst hspot
      have hlt : b < w.heap.size := World.block_lt_of_cell? w _ hc
      have hlen : (zs.take len).length = len := by rw [List.length_take]; omega
      have hget : ∀ i, i < len → (zs.take len).getD i 0 = zs.getD i 0 := by
        intro i hi; simp [List.getD_eq_getElem?_getD, hi]
      have hr : ∀ i, i < (zs.take len).length → -9223372036854775808 ≤ (zs.take len).getD i 0 ∧ (zs.take len).getD i 0 ≤ 9223372036854775807 := by
        intro i hi
        rw [hlen] at hi
        rw [hget i hi]
        have := range_i64 hwz i
        simpa [List.getD_eq_getElem?_getD] using this
      have hcc : ∀ w1, Below w.heap.size w w1 → ∀ i, i < (zs.take len).length → w1.cell? ⟨b, off + i, none⟩ = some (.int .i64 ((zs.take len).getD i 0)) := by
        intro w1 hb i hi
        rw [hlen] at hi
        rw [hget i hi, hb.cell (p := ⟨b, off + i, none⟩) hlt]
        have := hcell i (by omega)
        by_cases hi0 : i = 0
        · subst hi0; simpa [Addr.add] using this
        · simpa [Addr.add, hi0] using this
      have hmx : (zs.take len).length ≤ 9223372036854775807 := by unfold maxLen at hm; omega
      refine ⟨(sumL 0 (zs.take len)).1, (sumL 0 (zs.take len)).2, fun w1 hb => ?_, fun w1 hb => ?_⟩
      · have := sum_c b off cap (zs.take len) w1 (Nat.lt_of_lt_of_le hlt hb.size) hmx hr (hcc w1 hb)
        rwa [hlen] at this
      · have := rsum_c b off cap (zs.take len) w1 (Nat.lt_of_lt_of_le hlt hb.size) hmx hr (hcc w1 hb)
        rwa [hlen] at this

theorem vc_low {n l h : Int} (hl : l ≤ h) : l ≤ vClamp n l h := by unfold vClamp; omega
theorem vc_high {n l h : Int} (hl : l ≤ h) : vClamp n l h ≤ h := by unfold vClamp; omega
theorem vc_is {n l h : Int} (hl : l ≤ h) : vClamp n l h = n ∨ (n < l ∧ vClamp n l h = l) ∨ (h < n ∧ vClamp n l h = h) := by
  unfold vClamp; omega

set_option maxRecDepth 100000 in
set_option maxHeartbeats 400000 in
theorem walk_no_swap (a0 : Int) (a1 : Int) (a2 : Option Addr) (len2 cap2 : Nat) (x : Int) (p : Bool) (a3 : Int) (a4 : Int) (w : World) (ha1 : -9223372036854775808 ≤ a0) (ha2 : a0 ≤ 9223372036854775807) (hb1 : -9223372036854775808 ≤ a1) (hb2 : a1 ≤ 9223372036854775807) (HS : Hid (SumsAre a2 len2 cap2 w x p)) (hlen : ¬ (100 : Int) < (len2 : Int)) (hl : a4 < a3) (hp : spl a0 a1 = false) :
    Calls Try.prog 5 #[.int .i64 a0, .int .i64 a1, .slice a2 len2 cap2, .int .i64 a3, .int .i64 a4] w fun e w' => e = .returned (.bool true) ∧ Below w.heap.size w w' := by
  have HB := Below.refl w.heap.size w
  have k1 := vc_low (n := a0) (show a4 ≤ a3 by omega)
  have k2 := vc_high (n := a0) (show a4 ≤ a3 by omega)
  have k3 := vc_is (n := a0) (show a4 ≤ a3 by omega)
  generalize hk : vClamp a0 a4 a3 = k at *
  have HK := Lib.hid hk
  have K3 := Lib.hid k3
  have HP := Lib.hid hp
  have VD := Lib.hid (show vDiv a0 a1 = 0 by unfold vDiv; rw [hp]; rfl)
  have VM := Lib.hid (show vMod a0 a1 = 0 by unfold vMod; rw [hp]; rfl)
  clear hk k3 hp
  go_enter Try.func5, Try.ntmps5
  go_wp2_with (first | (go_at_call 7; refine (awake_c _).mono ?_; rintro e w' ⟨rfl, hw⟩; replace HB := chain HB hw; clear hw) | (go_at_call 16; refine (add_c _ _ _ (by omega) (by omega) (by omega) (by omega)).mono ?_; rintro e w' ⟨rfl, hw⟩; replace HB := chain HB hw; clear hw; skip) | (go_at_call 17; refine (sub_c _ _ _ (by omega) (by omega) (by omega) (by omega)).mono ?_; rintro e w' ⟨rfl, hw⟩; replace HB := chain HB hw; clear hw; skip) | (go_at_call 18; refine (mul_c _ _ _ (by omega) (by omega) (by omega) (by omega)).mono ?_; rintro e w' ⟨rfl, hw⟩; replace HB := chain HB hw; clear hw; skip) | (go_at_call 8; refine (adds_c _ _ _ ⟨hb1, hb2⟩ ⟨ha1, ha2⟩).mono ?_; rintro e w' ⟨rfl, rfl⟩) | (go_at_call 19; refine (subs_c _ _ _ ⟨hb1, hb2⟩ ⟨ha1, ha2⟩).mono ?_; rintro e w' ⟨rfl, rfl⟩) | (go_at_call 20; refine (muls_c _ _ _ ha1 ha2 hb1 hb2).mono ?_; rintro e w' ⟨rfl, rfl⟩) | (go_at_call 21; refine (HS.out.1 _ HB).mono ?_; rintro e w' ⟨rfl, hw⟩; replace HB := chain HB hw; clear hw) | (go_at_call 22; refine (HS.out.2 _ HB).mono ?_; rintro e w' ⟨rfl, rfl⟩) | (go_at_call 12; refine (clamp_c _ _ _ _).mono ?_; rintro e w' ⟨rfl, rfl⟩; rw [HK.out]) | (go_at_call 15; refine (result_c _ _ _ _ _).mono ?_; rintro e w' ⟨rfl, rfl⟩; first | rw [resB_if] | rw [resB_yes] | rw [resB_no]) | (go_at_call 9; refine (splits_c _ _ _).mono ?_; rintro e w' ⟨rfl, rfl⟩; rw [HP.out]) | (go_at_call 10; refine (div_c _ _ _ (by omega) (by omega) (by omega) (by omega)).mono ?_; rintro e w' ⟨rfl, hw⟩; replace HB := chain HB hw; clear hw; rw [VD.out, HP.out]) | (go_at_call 11; refine (mod_c _ _ _ (by omega) (by omega) (by omega) (by omega)).mono ?_; rintro e w' ⟨rfl, hw⟩; replace HB := chain HB hw; clear hw; rw [VM.out, HP.out]))
  all_goals (go_ret; first | exact ⟨rfl, HB⟩ | exact ⟨ret_bool (by have k3 := K3.out; rw [Bool.eq_iff_iff]; simp; omega), HB⟩ | (exfalso; have k3 := K3.out; omega))

set_option maxRecDepth 100000 in
set_option maxHeartbeats 400000 in
theorem walk_no_keep (a0 : Int) (a1 : Int) (a2 : Option Addr) (len2 cap2 : Nat) (x : Int) (p : Bool) (a3 : Int) (a4 : Int) (w : World) (ha1 : -9223372036854775808 ≤ a0) (ha2 : a0 ≤ 9223372036854775807) (hb1 : -9223372036854775808 ≤ a1) (hb2 : a1 ≤ 9223372036854775807) (HS : Hid (SumsAre a2 len2 cap2 w x p)) (hlen : ¬ (100 : Int) < (len2 : Int)) (hl : ¬ a4 < a3) (hp : spl a0 a1 = false) :
    Calls Try.prog 5 #[.int .i64 a0, .int .i64 a1, .slice a2 len2 cap2, .int .i64 a3, .int .i64 a4] w fun e w' => e = .returned (.bool true) ∧ Below w.heap.size w w' := by
  have HB := Below.refl w.heap.size w
  have k1 := vc_low (n := a0) (show a3 ≤ a4 by omega)
  have k2 := vc_high (n := a0) (show a3 ≤ a4 by omega)
  have k3 := vc_is (n := a0) (show a3 ≤ a4 by omega)
  generalize hk : vClamp a0 a3 a4 = k at *
  have HK := Lib.hid hk
  have K3 := Lib.hid k3
  have HP := Lib.hid hp
  have VD := Lib.hid (show vDiv a0 a1 = 0 by unfold vDiv; rw [hp]; rfl)
  have VM := Lib.hid (show vMod a0 a1 = 0 by unfold vMod; rw [hp]; rfl)
  clear hk k3 hp
  go_enter Try.func5, Try.ntmps5
  go_wp2_with (first | (go_at_call 7; refine (awake_c _).mono ?_; rintro e w' ⟨rfl, hw⟩; replace HB := chain HB hw; clear hw) | (go_at_call 16; refine (add_c _ _ _ (by omega) (by omega) (by omega) (by omega)).mono ?_; rintro e w' ⟨rfl, hw⟩; replace HB := chain HB hw; clear hw; skip) | (go_at_call 17; refine (sub_c _ _ _ (by omega) (by omega) (by omega) (by omega)).mono ?_; rintro e w' ⟨rfl, hw⟩; replace HB := chain HB hw; clear hw; skip) | (go_at_call 18; refine (mul_c _ _ _ (by omega) (by omega) (by omega) (by omega)).mono ?_; rintro e w' ⟨rfl, hw⟩; replace HB := chain HB hw; clear hw; skip) | (go_at_call 8; refine (adds_c _ _ _ ⟨hb1, hb2⟩ ⟨ha1, ha2⟩).mono ?_; rintro e w' ⟨rfl, rfl⟩) | (go_at_call 19; refine (subs_c _ _ _ ⟨hb1, hb2⟩ ⟨ha1, ha2⟩).mono ?_; rintro e w' ⟨rfl, rfl⟩) | (go_at_call 20; refine (muls_c _ _ _ ha1 ha2 hb1 hb2).mono ?_; rintro e w' ⟨rfl, rfl⟩) | (go_at_call 21; refine (HS.out.1 _ HB).mono ?_; rintro e w' ⟨rfl, hw⟩; replace HB := chain HB hw; clear hw) | (go_at_call 22; refine (HS.out.2 _ HB).mono ?_; rintro e w' ⟨rfl, rfl⟩) | (go_at_call 12; refine (clamp_c _ _ _ _).mono ?_; rintro e w' ⟨rfl, rfl⟩; rw [HK.out]) | (go_at_call 15; refine (result_c _ _ _ _ _).mono ?_; rintro e w' ⟨rfl, rfl⟩; first | rw [resB_if] | rw [resB_yes] | rw [resB_no]) | (go_at_call 9; refine (splits_c _ _ _).mono ?_; rintro e w' ⟨rfl, rfl⟩; rw [HP.out]) | (go_at_call 10; refine (div_c _ _ _ (by omega) (by omega) (by omega) (by omega)).mono ?_; rintro e w' ⟨rfl, hw⟩; replace HB := chain HB hw; clear hw; rw [VD.out, HP.out]) | (go_at_call 11; refine (mod_c _ _ _ (by omega) (by omega) (by omega) (by omega)).mono ?_; rintro e w' ⟨rfl, hw⟩; replace HB := chain HB hw; clear hw; rw [VM.out, HP.out]))
  all_goals (go_ret; first | exact ⟨rfl, HB⟩ | exact ⟨ret_bool (by have k3 := K3.out; rw [Bool.eq_iff_iff]; simp; omega), HB⟩ | (exfalso; have k3 := K3.out; omega))

set_option maxRecDepth 100000 in
set_option maxHeartbeats 400000 in
theorem walk_yes_swap (a0 : Int) (a1 : Int) (a2 : Option Addr) (len2 cap2 : Nat) (x : Int) (p : Bool) (a3 : Int) (a4 : Int) (w : World) (ha1 : -9223372036854775808 ≤ a0) (ha2 : a0 ≤ 9223372036854775807) (hb1 : -9223372036854775808 ≤ a1) (hb2 : a1 ≤ 9223372036854775807) (HS : Hid (SumsAre a2 len2 cap2 w x p)) (hlen : ¬ (100 : Int) < (len2 : Int)) (hl : a4 < a3) (hp : spl a0 a1 = true) :
    Calls Try.prog 5 #[.int .i64 a0, .int .i64 a1, .slice a2 len2 cap2, .int .i64 a3, .int .i64 a4] w fun e w' => e = .returned (.bool true) ∧ Below w.heap.size w w' := by
  have HB := Below.refl w.heap.size w
  have k1 := vc_low (n := a0) (show a4 ≤ a3 by omega)
  have k2 := vc_high (n := a0) (show a4 ≤ a3 by omega)
  have k3 := vc_is (n := a0) (show a4 ≤ a3 by omega)
  generalize hk : vClamp a0 a4 a3 = k at *
  have HK := Lib.hid hk
  have K3 := Lib.hid k3
  have HP := Lib.hid hp
  have VD := Lib.hid (show a0.fdiv a1 = vDiv a0 a1 by unfold vDiv; rw [if_pos hp])
  have VM := Lib.hid (show a0.fmod a1 = vMod a0 a1 by unfold vMod; rw [if_pos hp])
  clear hk k3 hp
  go_enter Try.func5, Try.ntmps5
  go_wp2_with (first | (go_at_call 7; refine (awake_c _).mono ?_; rintro e w' ⟨rfl, hw⟩; replace HB := chain HB hw; clear hw) | (go_at_call 16; refine (add_c _ _ _ (by omega) (by omega) (by omega) (by omega)).mono ?_; rintro e w' ⟨rfl, hw⟩; replace HB := chain HB hw; clear hw; skip) | (go_at_call 17; refine (sub_c _ _ _ (by omega) (by omega) (by omega) (by omega)).mono ?_; rintro e w' ⟨rfl, hw⟩; replace HB := chain HB hw; clear hw; skip) | (go_at_call 18; refine (mul_c _ _ _ (by omega) (by omega) (by omega) (by omega)).mono ?_; rintro e w' ⟨rfl, hw⟩; replace HB := chain HB hw; clear hw; skip) | (go_at_call 8; refine (adds_c _ _ _ ⟨hb1, hb2⟩ ⟨ha1, ha2⟩).mono ?_; rintro e w' ⟨rfl, rfl⟩) | (go_at_call 19; refine (subs_c _ _ _ ⟨hb1, hb2⟩ ⟨ha1, ha2⟩).mono ?_; rintro e w' ⟨rfl, rfl⟩) | (go_at_call 20; refine (muls_c _ _ _ ha1 ha2 hb1 hb2).mono ?_; rintro e w' ⟨rfl, rfl⟩) | (go_at_call 21; refine (HS.out.1 _ HB).mono ?_; rintro e w' ⟨rfl, hw⟩; replace HB := chain HB hw; clear hw) | (go_at_call 22; refine (HS.out.2 _ HB).mono ?_; rintro e w' ⟨rfl, rfl⟩) | (go_at_call 12; refine (clamp_c _ _ _ _).mono ?_; rintro e w' ⟨rfl, rfl⟩; rw [HK.out]) | (go_at_call 15; refine (result_c _ _ _ _ _).mono ?_; rintro e w' ⟨rfl, rfl⟩; first | rw [resB_if] | rw [resB_yes] | rw [resB_no]) | (go_at_call 9; refine (splits_c _ _ _).mono ?_; rintro e w' ⟨rfl, rfl⟩; rw [HP.out]) | (go_at_call 10; refine (div_c _ _ _ (by omega) (by omega) (by omega) (by omega)).mono ?_; rintro e w' ⟨rfl, hw⟩; replace HB := chain HB hw; clear hw; rw [HP.out]) | (go_at_call 11; refine (mod_c _ _ _ (by omega) (by omega) (by omega) (by omega)).mono ?_; rintro e w' ⟨rfl, hw⟩; replace HB := chain HB hw; clear hw; rw [HP.out]) | (go_at_call 13; refine (rdiv_c _ _ _ ha1 ha2 hb1 hb2 HP.out).mono ?_; rintro e w' ⟨rfl, rfl⟩; rw [VD.out]) | (go_at_call 14; refine (rmod_c _ _ _ ha1 ha2 hb1 hb2 HP.out).mono ?_; rintro e w' ⟨rfl, rfl⟩; rw [VM.out]))
  all_goals (go_ret; first | exact ⟨rfl, HB⟩ | exact ⟨ret_bool (by have k3 := K3.out; rw [Bool.eq_iff_iff]; simp; omega), HB⟩ | (exfalso; have k3 := K3.out; omega))

set_option maxRecDepth 100000 in
set_option maxHeartbeats 400000 in
theorem walk_yes_keep (a0 : Int) (a1 : Int) (a2 : Option Addr) (len2 cap2 : Nat) (x : Int) (p : Bool) (a3 : Int) (a4 : Int) (w : World) (ha1 : -9223372036854775808 ≤ a0) (ha2 : a0 ≤ 9223372036854775807) (hb1 : -9223372036854775808 ≤ a1) (hb2 : a1 ≤ 9223372036854775807) (HS : Hid (SumsAre a2 len2 cap2 w x p)) (hlen : ¬ (100 : Int) < (len2 : Int)) (hl : ¬ a4 < a3) (hp : spl a0 a1 = true) :
    Calls Try.prog 5 #[.int .i64 a0, .int .i64 a1, .slice a2 len2 cap2, .int .i64 a3, .int .i64 a4] w fun e w' => e = .returned (.bool true) ∧ Below w.heap.size w w' := by
  have HB := Below.refl w.heap.size w
  have k1 := vc_low (n := a0) (show a3 ≤ a4 by omega)
  have k2 := vc_high (n := a0) (show a3 ≤ a4 by omega)
  have k3 := vc_is (n := a0) (show a3 ≤ a4 by omega)
  generalize hk : vClamp a0 a3 a4 = k at *
  have HK := Lib.hid hk
  have K3 := Lib.hid k3
  have HP := Lib.hid hp
  have VD := Lib.hid (show a0.fdiv a1 = vDiv a0 a1 by unfold vDiv; rw [if_pos hp])
  have VM := Lib.hid (show a0.fmod a1 = vMod a0 a1 by unfold vMod; rw [if_pos hp])
  clear hk k3 hp
  go_enter Try.func5, Try.ntmps5
  go_wp2_with (first | (go_at_call 7; refine (awake_c _).mono ?_; rintro e w' ⟨rfl, hw⟩; replace HB := chain HB hw; clear hw) | (go_at_call 16; refine (add_c _ _ _ (by omega) (by omega) (by omega) (by omega)).mono ?_; rintro e w' ⟨rfl, hw⟩; replace HB := chain HB hw; clear hw; skip) | (go_at_call 17; refine (sub_c _ _ _ (by omega) (by omega) (by omega) (by omega)).mono ?_; rintro e w' ⟨rfl, hw⟩; replace HB := chain HB hw; clear hw; skip) | (go_at_call 18; refine (mul_c _ _ _ (by omega) (by omega) (by omega) (by omega)).mono ?_; rintro e w' ⟨rfl, hw⟩; replace HB := chain HB hw; clear hw; skip) | (go_at_call 8; refine (adds_c _ _ _ ⟨hb1, hb2⟩ ⟨ha1, ha2⟩).mono ?_; rintro e w' ⟨rfl, rfl⟩) | (go_at_call 19; refine (subs_c _ _ _ ⟨hb1, hb2⟩ ⟨ha1, ha2⟩).mono ?_; rintro e w' ⟨rfl, rfl⟩) | (go_at_call 20; refine (muls_c _ _ _ ha1 ha2 hb1 hb2).mono ?_; rintro e w' ⟨rfl, rfl⟩) | (go_at_call 21; refine (HS.out.1 _ HB).mono ?_; rintro e w' ⟨rfl, hw⟩; replace HB := chain HB hw; clear hw) | (go_at_call 22; refine (HS.out.2 _ HB).mono ?_; rintro e w' ⟨rfl, rfl⟩) | (go_at_call 12; refine (clamp_c _ _ _ _).mono ?_; rintro e w' ⟨rfl, rfl⟩; rw [HK.out]) | (go_at_call 15; refine (result_c _ _ _ _ _).mono ?_; rintro e w' ⟨rfl, rfl⟩; first | rw [resB_if] | rw [resB_yes] | rw [resB_no]) | (go_at_call 9; refine (splits_c _ _ _).mono ?_; rintro e w' ⟨rfl, rfl⟩; rw [HP.out]) | (go_at_call 10; refine (div_c _ _ _ (by omega) (by omega) (by omega) (by omega)).mono ?_; rintro e w' ⟨rfl, hw⟩; replace HB := chain HB hw; clear hw; rw [HP.out]) | (go_at_call 11; refine (mod_c _ _ _ (by omega) (by omega) (by omega) (by omega)).mono ?_; rintro e w' ⟨rfl, hw⟩; replace HB := chain HB hw; clear hw; rw [HP.out]) | (go_at_call 13; refine (rdiv_c _ _ _ ha1 ha2 hb1 hb2 HP.out).mono ?_; rintro e w' ⟨rfl, rfl⟩; rw [VD.out]) | (go_at_call 14; refine (rmod_c _ _ _ ha1 ha2 hb1 hb2 HP.out).mono ?_; rintro e w' ⟨rfl, rfl⟩; rw [VM.out]))
  all_goals (go_ret; first | exact ⟨rfl, HB⟩ | exact ⟨ret_bool (by have k3 := K3.out; rw [Bool.eq_iff_iff]; simp; omega), HB⟩ | (exfalso; have k3 := K3.out; omega))

set_option maxRecDepth 100000 in
set_option maxHeartbeats 400000 in
theorem walk (a0 : Int) (a1 : Int) (a2 : Option Addr) (len2 cap2 : Nat) (z2 : List Int) (a3 : Int) (a4 : Int) (w : World) (w0 : (Lit.int .i64 a0).wf = true) (w1 : (Lit.int .i64 a1).wf = true) (w2 : IsRow .i64 w a2 len2 cap2 z2) (w3 : (Lit.int .i64 a3).wf = true) (w4 : (Lit.int .i64 a4).wf = true) :
    Calls Try.prog 5 #[.int .i64 a0, .int .i64 a1, .slice a2 len2 cap2, .int .i64 a3, .int .i64 a4] w fun e w' => e = .returned (.bool true) ∧ Below w.heap.size w w' := by
  obtain ⟨ha1, ha2⟩ := bounds_i64 w0
  obtain ⟨hb1, hb2⟩ := bounds_i64 w1
  clear w0 w1 w3 w4
  obtain ⟨x, p, hs⟩ := sums_any a2 len2 cap2 z2 w w2
  clear w2
  have HS := Lib.hid hs
  clear hs
  by_cases hlen : (100 : Int) < (len2 : Int)
  · have HB := Below.refl w.heap.size w
    go_enter Try.func5, Try.ntmps5
    go_wp2_with (go_at_call 7; refine (awake_c _).mono ?_; rintro e w' ⟨rfl, hw⟩; replace HB := chain HB hw; clear hw)
    go_ret
    exact ⟨rfl, HB⟩
  · by_cases hl : a4 < a3
    · cases hp : spl a0 a1
      · exact walk_no_swap a0 a1 a2 len2 cap2 x p a3 a4 w ha1 ha2 hb1 hb2 HS hlen hl hp
      · exact walk_yes_swap a0 a1 a2 len2 cap2 x p a3 a4 w ha1 ha2 hb1 hb2 HS hlen hl hp
    · cases hp : spl a0 a1
      · exact walk_no_keep a0 a1 a2 len2 cap2 x p a3 a4 w ha1 ha2 hb1 hb2 HS hlen hl hp
      · exact walk_yes_keep a0 a1 a2 len2 cap2 x p a3 a4 w ha1 ha2 hb1 hb2 HS hlen hl hp


set_option maxRecDepth 100000 in
theorem lifted (os : Os) (started : os.Started) (H : Type) (enc : TypeId × Value → H) :
    ReturnsInHanded {} Try.checked os 5 .any (Rows.intmathMatchesReferenceSpec.pre6 enc Try.prog Try.f5 Rows.intmathMatchesReferenceRow.domain false) (Rows.intmathMatchesReferenceSpec.post enc Try.prog Try.f5 false true false false) := by
  refine returnsInHanded_of_change (C := Try.checked) own started (by kernel_rfl) Try.func5
    (ChangeSpec.witness6 (enc := enc) (C := Try.checked) false ⟨#[], #[.int .i64 0, .int .i64 0, .slice none 0 0, .int .i64 0, .int .i64 0], []⟩ 8 (by kernel_rfl) (by kernel_rfl) (by kernel_rfl) (by kernel_rfl)) ?_
  intro W base args ds gs before hval0 hW hcnd _
  have hval : ∀ (j : Nat) t v, Try.f5.params[j]? = some t → args[j]? = some v → Value.okWide Try.prog W .any base t v := hval0
  have hW' := hW
  obtain ⟨p, q, hA0, hV, rfl, hfz, hnd⟩ := hW
  have hA : DataW.TrodAll enc Try.prog W 0 (fun _ => true) true Try.f5.params.toList args.toList ds p := hA0
  rw [Try.params5] at hA hval
  obtain ⟨v0, vs0, d0, ds0, p0, q0, hargs, rfl, rfl, h0, r0⟩ := trodAll_cons hA
  obtain ⟨v1, vs1, d1, ds1, p1, q1, rfl, rfl, rfl, h1, r1⟩ := trodAll_cons r0
  obtain ⟨v2, vs2, d2, ds2, p2, q2, rfl, rfl, rfl, h2, r2⟩ := trodAll_cons r1
  obtain ⟨v3, vs3, d3, ds3, p3, q3, rfl, rfl, rfl, h3, r3⟩ := trodAll_cons r2
  obtain ⟨v4, vs4, d4, ds4, p4, q4, rfl, rfl, rfl, h4, r4⟩ := trodAll_cons r3
  obtain ⟨rfl, rfl, rfl⟩ := trodAll_nil r4
  obtain rfl : args = #[v0, v1, v2, v3, v4] := by cases args; simp_all
  obtain ⟨rfl, rfl⟩ := trodVars_none hV
  obtain ⟨a0, rfl, rfl, rfl, w0⟩ := open_int Try.underlying3 (hval 0 3 v0 rfl rfl) h0
  obtain ⟨a1, rfl, rfl, rfl, w1⟩ := open_int Try.underlying3 (hval 1 3 v1 rfl rfl) h1
  obtain ⟨a2, len2, cap2, rfl⟩ := okWide_slice Try.underlying28 (hval 2 28 v2 rfl rfl)
  have k2 := h2
  have lt2 : ∀ x ∈ p2, x.block < W.heap.size := by obtain ⟨m, hm⟩ := k2; exact DataW.trod_lt m _ _ _ hm
  obtain ⟨z2, w2⟩ : ∃ zs, IsRow .i64 W a2 len2 cap2 zs := by
    obtain ⟨fuel, hf⟩ := h2
    rcases open_ints Try.underlying28 Try.underlying3 (by kernel_rfl) hf with ⟨hcs, _⟩ | ⟨x, l, c, zs, hcs, _, hl, hm, hz, _, hcell, hwz⟩
    · simp [Value.cells] at hcs
      obtain ⟨rfl, rfl, rfl⟩ := hcs
      exact ⟨[], .inl ⟨rfl, rfl, rfl, rfl⟩⟩
    · simp [Value.cells] at hcs
      obtain ⟨rfl, rfl, rfl⟩ := hcs
      exact ⟨zs, .inr ⟨_, rfl, hl, hm, by simpa using hz, hcell, hwz⟩⟩
  obtain ⟨a3, rfl, rfl, rfl, w3⟩ := open_int Try.underlying3 (hval 3 3 v3 rfl rfl) h3
  obtain ⟨a4, rfl, rfl, rfl, w4⟩ := open_int Try.underlying3 (hval 4 3 v4 rfl rfl) h4
  clear hA0 hval0
  refine (walk a0 a1 a2 len2 cap2 z2 a3 a4 W w0 w1 w2 w3 w4).mono fun e W' ⟨he, bel⟩ => ?_
  subst he
  exact ⟨_, rfl, _, _, _, [], _, [], hW', trodAll_mk1 (shut_bool Try.underlying4 _), (trodAll_cons_mk (shut_int Try.underlying3 w0) (trodAll_cons_mk (shut_int Try.underlying3 w1) (trodAll_cons_mk (Below.trod laidOut (by kernel_rfl) (of_decide_eq_true (by kernel_rfl)) k2 bel lt2) (trodAll_cons_mk (shut_int Try.underlying3 w3) (trodAll_cons_mk (shut_int Try.underlying3 w4) trodAll_mk0))))), rfl, bel.frame _, fun h => by cases h⟩

theorem over : Rows.intmathMatchesReferenceRow.holds Try.pinned (OpenSpec.ofChange Rows.intmathMatchesReferenceSpec) :=
  OpenClaim.holds_of_wide 5 Try.f5 rfl rfl rfl rfl rfl rfl rfl ⟨rfl, rfl, rfl, rfl, rfl⟩ rfl rfl rfl rfl rfl (by kernel_rfl) Try.func5 (by kernel_rfl)
    (of_decide_eq_true (by kernel_rfl)) (by unfold Func.isWrapper; first | (rw [if_pos (by decide +kernel)]; kernel_rfl) | (rw [if_neg (by decide +kernel)]; exact ⟨rfl, rfl⟩))
    (fun os started H enc _ => lifted os started H enc)

theorem proved : Rows.IntmathMatchesReferenceSaid := over
#print axioms proved
end Go.Proofs.Ytoankoongjiegaa.intmathMatchesReference
