/-
  Contracts and plain facts for the laws on the whole program: the parts below say each what they are. No further condition.
-/
import Derived.Test.YtdgaflcnigljlaaGreatDoorS11
import Derived.Test.YtdgaflcnigljlaaGreatDoorS19
import Derived.Test.YtdgaflcnigljlaaGreatDoorS28
import Derived.BigQuiet
import Derived.Deep.RegionLaw
import Derived.Deep.AppendLies
import Derived.Deep.RegionHeld3
import Derived.Deep.Cut
import Derived.Deep.CutRange
import Derived.Deep.DeepCutAuto
set_option linter.unusedSimpArgs false
/-
  Contracts of references 18 and 19: the starts of the seasons and the days of the feasts. At well-formed small catalogues, years from 1583 to 1000000000. No further condition.
-/
namespace Go.Proofs.YtdgaflcnigljlaaGreatDoor
open Go.RowKit Go.Proofs Go.Proofs.YtdgaflcnigljlaaGreatDoorW.PrintWords
set_option linter.unusedVariables false
def vDy (C : Cat) (y : Int) : List Int := C.feas.map fun s => s.at_.day y
set_option maxRecDepth 20000 in
set_option maxHeartbeats 1000000 in
theorem rst_c (C : Cat) (A1 : Option Addr) (n1 c1 : Nat) (A2 : Option Addr) (n2 c2 : Nat) (y : Int) (w : World) (hI : Hid (CatIn w C A1 n1 c1 A2 n2 c2)) (hG : Hid C.Good) (y1 : 1583 ≤ y) (y2 : y ≤ 1000000000) :
    Calls Tryz.prog 12 #[.agg #[.int .i64 C.free, .slice A1 n1 c1, .slice A2 n2 c2], .int .i64 y] w fun e w' => ∃ v, e = .returned v ∧ Own w' w.heap.size 3 1 v (intRows (vSt C y)) ∧ Below w.heap.size w w' := by
  have HK := Lib.hid (show StBox w (w.alloc (.cells #[.int .i64 C.free, .slice A1 n1 c1, .slice A2 n2 c2] 25)) C A1 n1 c1 A2 n2 c2 (.slice none 0 0) [] from ⟨(Below.refl _ _).alloc (Nat.le_refl _) _, Blk.new _ _ _, Own.nil _ _ _ _⟩)
  have g2 : n1 ≤ 31 := by have := hG.out.n2; have := hI.out.e1; omega
  go_enter Tryz.func12, Tryz.ntmps12
  go_wp2_with fail
  go_loopw [5, 6] (fun o i wr => ∃ (k : Int) (v : Value), 0 ≤ k ∧ k ≤ n1 ∧ i = .int .i64 k ∧ o = v ∧ Hid (StBox w wr C A1 n1 c1 A2 n2 c2 v ((vSt C y).take k.toNat))) (fun _ i _ => (n1 - intOf i).toNat)
  case atStart => exact ⟨0, _, by omega, by omega, rfl, rfl, HK⟩
  case round =>
    clear HK
    obtain ⟨k, v, k0, k1, rfl, rfl, HK⟩ := hrel
    obtain ⟨⟨x0, x1, x2⟩, _⟩ := HK.out.box.c3
    have xl := HK.out.box.lt
    by_cases hk : k < n1
    · obtain ⟨s, hs⟩ : ∃ s, C.seas[k.toNat]? = some s := ⟨_, List.getElem?_eq_getElem (by have := hI.out.e1; omega)⟩
      have hm : s ∈ C.seas := List.mem_of_getElem? hs
      have OK : Hid (AncOk s.st.k s.st.m s.st.d s.st.o s.st.wd s.st.c) := Lib.hid (hG.out.sea s hm).st
      have TK := Lib.hid (show (vSt C y).take k.toNat ++ [s.st.day y] = (vSt C y).take (k.toNat + 1) by rw [List.take_add_one]; simp [vSt, hs])
      have TL : ((vSt C y).take k.toNat).length ≤ 31 := by rw [List.length_take]; omega
      obtain ⟨ad, ha, hr⟩ := (hI.out.sea.below HK.out.bel) k.toNat s.cells (by rw [List.getElem?_map, hs]; rfl)
      obtain ⟨a0, a1, a2, a3, a4, a5, a6, a7, a8⟩ := RowIs.nine hr
      have plt := hr.lt rfl
      clear hr hm hs
      subst ha
      go_wp2_with (first | (go_at_call 25; with_reducible refine (raday_c y _ _ _ _ _ _ _ y1 y2 OK.out).mono ?_; rintro e w1 ⟨rfl, hw⟩; replace HK := Lib.hid (HK.out.below hw); clear hw a0 a1 a2 a3 a4 a5 a6 a7 a8 plt x0 x1 x2 xl) | (at_builtin; refine own_app (w0 := w1) 36 3 rfl _ _ rfl Tryz.underlying36 info3 rfl (by decide) (by decide) _ rfl #[_] rfl rfl (by simp [Value.oneCell']) HK.out.own (Below.refl _ _) (by have := HK.out.box.lt; omega) (by simp [intRows]; omega) ?_; intro v1 w2 ho hb hg hat; replace HK := Lib.hid (HK.out.app ho hb); clear ho hb hg hat))
      exact ⟨⟨k + 1, v1, by omega, by omega, by go_num, rfl, Lib.hid (by rw [show (k + 1).toNat = k.toNat + 1 by omega, ← TK.out]; exact HK.out)⟩, by simp [intOf]; omega⟩
    · have TK : Hid ((vSt C y).take k.toNat = vSt C y) := Lib.hid (List.take_of_length_le (by have := hI.out.e1; simp [vSt]; omega))
      go_wp2_with fail
      go_ret
      exact ⟨_, rfl, by have := HK.out.own; rw [TK.out] at this; exact this.less (Nat.le_succ _), HK.out.bel⟩
set_option maxRecDepth 20000 in
set_option maxHeartbeats 1000000 in
theorem rdy_c (C : Cat) (A1 : Option Addr) (n1 c1 : Nat) (A2 : Option Addr) (n2 c2 : Nat) (y : Int) (w : World) (hI : Hid (CatIn w C A1 n1 c1 A2 n2 c2)) (hG : Hid C.Good) (y1 : 1583 ≤ y) (y2 : y ≤ 1000000000) :
    Calls Tryz.prog 13 #[.agg #[.int .i64 C.free, .slice A1 n1 c1, .slice A2 n2 c2], .int .i64 y] w fun e w' => ∃ v, e = .returned v ∧ Own w' w.heap.size 3 1 v (intRows (vDy C y)) ∧ Below w.heap.size w w' := by
  have HK := Lib.hid (show StBox w (w.alloc (.cells #[.int .i64 C.free, .slice A1 n1 c1, .slice A2 n2 c2] 25)) C A1 n1 c1 A2 n2 c2 (.slice none 0 0) [] from ⟨(Below.refl _ _).alloc (Nat.le_refl _) _, Blk.new _ _ _, Own.nil _ _ _ _⟩)
  have g2 : n2 ≤ 31 := by have := hG.out.n3; have := hI.out.e2; omega
  go_enter Tryz.func13, Tryz.ntmps13
  go_wp2_with fail
  go_loopw [5, 6] (fun o i wr => ∃ (k : Int) (v : Value), 0 ≤ k ∧ k ≤ n2 ∧ i = .int .i64 k ∧ o = v ∧ Hid (StBox w wr C A1 n1 c1 A2 n2 c2 v ((vDy C y).take k.toNat))) (fun _ i _ => (n2 - intOf i).toNat)
  case atStart => exact ⟨0, _, by omega, by omega, rfl, rfl, HK⟩
  case round =>
    clear HK
    obtain ⟨k, v, k0, k1, rfl, rfl, HK⟩ := hrel
    obtain ⟨⟨x0, x1, x2⟩, _⟩ := HK.out.box.c3
    have xl := HK.out.box.lt
    by_cases hk : k < n2
    · obtain ⟨s, hs⟩ : ∃ s, C.feas[k.toNat]? = some s := ⟨_, List.getElem?_eq_getElem (by have := hI.out.e2; omega)⟩
      have hm : s ∈ C.feas := List.mem_of_getElem? hs
      have OK : Hid (AncOk s.at_.k s.at_.m s.at_.d s.at_.o s.at_.wd s.at_.c) := Lib.hid (hG.out.fea s hm).at_
      have TK := Lib.hid (show (vDy C y).take k.toNat ++ [s.at_.day y] = (vDy C y).take (k.toNat + 1) by rw [List.take_add_one]; simp [vDy, hs])
      have TL : ((vDy C y).take k.toNat).length ≤ 31 := by rw [List.length_take]; omega
      obtain ⟨ad, ha, hr⟩ := (hI.out.fea.below HK.out.bel) k.toNat s.cells (by rw [List.getElem?_map, hs]; rfl)
      obtain ⟨a0, a1, a2, a3, a4, a5, a6, a7, a8⟩ := RowIs.nine hr
      have plt := hr.lt rfl
      clear hr hm hs
      subst ha
      go_wp2_with (first | (go_at_call 25; with_reducible refine (raday_c y _ _ _ _ _ _ _ y1 y2 OK.out).mono ?_; rintro e w1 ⟨rfl, hw⟩; replace HK := Lib.hid (HK.out.below hw); clear hw a0 a1 a2 a3 a4 a5 a6 a7 a8 plt x0 x1 x2 xl) | (at_builtin; refine own_app (w0 := w1) 36 3 rfl _ _ rfl Tryz.underlying36 info3 rfl (by decide) (by decide) _ rfl #[_] rfl rfl (by simp [Value.oneCell']) HK.out.own (Below.refl _ _) (by have := HK.out.box.lt; omega) (by simp [intRows]; omega) ?_; intro v1 w2 ho hb hg hat; replace HK := Lib.hid (HK.out.app ho hb); clear ho hb hg hat))
      exact ⟨⟨k + 1, v1, by omega, by omega, by go_num, rfl, Lib.hid (by rw [show (k + 1).toNat = k.toNat + 1 by omega, ← TK.out]; exact HK.out)⟩, by simp [intOf]; omega⟩
    · have TK : Hid ((vDy C y).take k.toNat = vDy C y) := Lib.hid (List.take_of_length_le (by have := hI.out.e2; simp [vDy]; omega))
      go_wp2_with fail
      go_ret
      exact ⟨_, rfl, by have := HK.out.own; rw [TK.out] at this; exact this.less (Nat.le_succ _), HK.out.bel⟩
end Go.Proofs.YtdgaflcnigljlaaGreatDoor
/-
  Contracts of references 18 and 20: the season of a day; which of two candidates precedes. No further condition.
-/
namespace Go.Proofs.YtdgaflcnigljlaaGreatDoor
open Go.RowKit Go.Proofs Go.Proofs.YtdgaflcnigljlaaGreatDoorW.PrintWords
set_option linter.unusedVariables false
theorem best_snoc (l : List (Int × Int)) (p : Int × Int) : best (l ++ [p]) = some (match best l with | none => p | some q => if p.1 < q.1 then q else p) := by
  induction l with
  | nil => rfl
  | cons a l ih =>
    rw [List.cons_append]
    simp only [best]
    rw [ih]
    cases hb : best l with
    | none =>
      simp only []
      by_cases h : p.1 < a.1
      · rw [if_pos h, if_pos h]
      · rw [if_neg h, if_neg h]
    | some q =>
      simp only []
      by_cases h1 : p.1 < q.1
      · rw [if_pos h1]
        by_cases h2 : q.1 < a.1
        · simp only [h2, if_true]; rw [if_pos (by omega)]
        · simp only [h2, if_false]; rw [if_pos h1]
      · rw [if_neg h1]
        by_cases h2 : q.1 < a.1
        · simp only [h2, if_true]
          by_cases h3 : p.1 < a.1
          · rw [if_pos h3, if_pos h3]
          · rw [if_neg h3, if_neg h3]
        · simp only [h2, if_false]
          rw [if_neg h1, if_neg (by omega)]
def inW (B : Option (Int × Int)) : Int := match B with | none => -1 | some q => q.2
def inL (B : Option (Int × Int)) : Int := match B with | none => 0 | some q => q.1
theorem in_step {l : List (Int × Int)} {p : Int × Int} (h : p.1 < inL (best l)) (h0 : 0 ≤ p.1) : best (l ++ [p]) = best l := by
  rw [best_snoc]
  cases e : best l with
  | none => rw [e] at h; simp only [inL] at h; omega
  | some q => rw [e] at h; simp only [inL] at h; simp [h]
theorem in_step' {l : List (Int × Int)} {p : Int × Int} (h : ¬ p.1 < inL (best l)) : best (l ++ [p]) = some p := by
  rw [best_snoc]
  cases e : best l with
  | none => rfl
  | some q => rw [e] at h; simp only [inL] at h; simp [h]
/-- The seasons that have begun, among the first k. -/
def inF (C : Cat) (y d : Int) (k : Nat) : List (Int × Int) := ((stL C y).take k).filter fun p => decide (p.1 ≤ d)
theorem inF_at {C : Cat} {y d : Int} {k : Nat} {p : Int × Int} (h : (stL C y)[k]? = some p) : inF C y d (k + 1) = inF C y d k ++ if p.1 ≤ d then [p] else [] := by
  unfold inF
  rw [List.take_add_one, h, Option.toList_some, List.filter_append]
  congr 1
  by_cases c : p.1 ≤ d
  · simp [c]
  · simp [c]
theorem inG_at {C : Cat} {y : Int} {k : Nat} {p : Int × Int} (h : (stL C y)[k]? = some p) : (stL C y).take (k + 1) = (stL C y).take k ++ [p] := by
  rw [List.take_add_one, h, Option.toList_some]
theorem st_get {C : Cat} {y : Int} {k : Nat} (h : k < C.seas.length) : ∃ s, s ∈ C.seas ∧ (stL C y)[k]? = some (s.st.day y, (k : Int)) ∧ (intRows (vSt C y))[k]? = some #[.int .i64 (s.st.day y)] := by
  have e := stL_at (y := y) (List.getElem?_eq_getElem h)
  exact ⟨_, List.getElem_mem h, e, (ints_at e).1⟩
theorem inL_bd {C : Cat} (hG : C.Good) {y : Int} (y1 : 1583 ≤ y) (y2 : y ≤ 1000000000) {l : List (Int × Int)} (hl : l.Pairwise (fun a b => a.2 < b.2)) (hs : ∀ p ∈ l, p ∈ stL C y) : 0 ≤ inL (best l) ∧ inL (best l) ≤ 365242500001 ∧ -1 ≤ inW (best l) ∧ inW (best l) < 8 ∧ (l ≠ [] → 0 ≤ inW (best l)) := by
  cases e : best l with
  | none => exact ⟨by simp [inL], by simp [inL], by simp [inW], by simp [inW], fun h => absurd (best_none e) h⟩
  | some q =>
    have hq := hs q (best_spec hl e).1
    obtain ⟨k, hk, he⟩ := List.getElem_of_mem hq
    rw [stL_len] at hk
    obtain ⟨s, hm, h1, _⟩ := st_get (y := y) hk
    rw [List.getElem?_eq_getElem (by rw [stL_len]; exact hk), he] at h1
    cases h1
    obtain ⟨a, b⟩ := anc_bd (hG.sea s hm).st y1 y2
    obtain ⟨b1, b2⟩ := vFirst_bd (y := y) (by omega) (by omega)
    obtain ⟨b3, b4⟩ := vFirst_bd (y := y + 1) (by omega) (by omega)
    have := hG.n2
    exact ⟨by simp only [inL]; omega, by simp only [inL]; omega, by simp only [inW]; omega, by simp only [inW]; omega, fun _ => by simp only [inW]; omega⟩
set_option maxHeartbeats 400000 in
theorem rprec_c (a b : Cand) (w : World) : Calls Tryz.prog 64 #[.agg a.row, .agg b.row] w fun e w' => e = .returned (.bool (decide (Prec a b))) ∧ Below w.heap.size w w' := by
  have HB := Lib.hid (((Below.refl w.heap.size w).alloc (Nat.le_refl _) (.cells a.row 46)).alloc (by simp) (.cells b.row 46))
  have FF := Lib.hid (fun c : Bool => show (c = true ↔ Prec a b) → Ending.returned (.bool c) = .returned (.bool (decide (Prec a b))) from fun h => ret_bool (by rw [Bool.eq_iff_iff, h, decide_eq_true_iff]))
  obtain ⟨ak, ai, ar, sa⟩ := a
  obtain ⟨bk, bi, br, sb⟩ := b
  simp only [Cand.row] at *
  go_enter Tryz.func64, Tryz.ntmps64
  go_wp2
  all_goals
    go_ret
    exact ⟨FF.out _ (by simp [Prec]; simp at *; omega), ((Below.refl _ _).alloc (Nat.le_refl _) _).alloc (by simp) _⟩
theorem inF_ord (C : Cat) (y d : Int) (k : Nat) : (inF C y d k).Pairwise (fun a b => a.2 < b.2) := filter_ord ((stL_ord C y).sublist (List.take_sublist _ _)) _
theorem inF_mem {C : Cat} {y d : Int} {k : Nat} : ∀ p ∈ inF C y d k, p ∈ stL C y := fun p hp => List.mem_of_mem_take (List.mem_filter.1 hp).1
set_option maxRecDepth 20000 in
set_option maxHeartbeats 1000000 in
theorem rin_c (C : Cat) (y d : Int) (v : Value) (b : Nat) (w : World) (hG : Hid C.Good) (y1 : 1583 ≤ y) (y2 : y ≤ 1000000000) (hO : Hid (Own w b 3 1 v (intRows (vSt C y)))) :
    Calls Tryz.prog 37 #[v, .int .i64 d] w fun e w' => ∃ x, e = .returned (.tuple #[.int .i64 (vFind C y d).2, .int .i64 x]) ∧ Below w.heap.size w w' := by
  obtain ⟨n, hn⟩ : ∃ n, n = C.seas.length := ⟨_, rfl⟩
  have n1 : 1 ≤ n := by have := hG.out.n1; omega
  have n8 : n ≤ 8 := by have := hG.out.n2; omega
  obtain ⟨g, cap, rfl, _, _, _⟩ := hO.out.ne (ints_len C y hn) n1
  have HN := Lib.hid hn
  have HB := Lib.hid (Below.refl w.heap.size w)
  have RD := Lib.hid (fun (k : Nat) (hk : k < n) => by
    obtain ⟨s, h1, h2, h3⟩ := st_get (C := C) (y := y) (k := k) (by omega)
    exact (⟨s.st.day y, (anc_bd (hG.out.sea s h1).st y1 y2).1, h2, hO.out.at1 rfl k _ h3⟩ : ∃ x, vFirst y ≤ x ∧ (stL C y)[k]? = some (x, (k : Int)) ∧ w.cell? ⟨g, k, none⟩ = some (.int .i64 x)))
  have GL : g < w.heap.size := (hO.out.block g rfl).2
  obtain ⟨f1, f2⟩ := vFirst_bd (y := y) (by omega) (by omega)
  clear hn
  go_enter Tryz.func37, Tryz.ntmps37
  go_wp2_with fail
  go_loopw [6, 7, 8] (fun wv lv iv wr => ∃ k : Nat, k ≤ n ∧ iv = .int .i64 k ∧ wv = .int .i64 (inW (best (inF C y d k))) ∧ lv = .int .i64 (inL (best (inF C y d k))) ∧ w = wr) (fun _ _ iv _ => (n - intOf iv).toNat)
  case atStart => exact ⟨0, by omega, rfl, rfl, rfl, rfl⟩
  case round =>
    obtain ⟨k, k1, rfl, rfl, rfl, rfl⟩ := hrel
    by_cases hk : k < n
    · obtain ⟨x, x1, x2, x3⟩ := RD.out k hk
      have hk' : (k : Int) < n := by omega
      have NX := Lib.hid (inF_at (d := d) x2)
      have B1 := Lib.hid (inF_ord C y d k)
      by_cases c1 : x ≤ d
      · by_cases c2 : x < inL (best (inF C y d k))
        · have t1 : decide (x ≤ d) = true := by simpa using c1
          have t2 : decide (inL (best (inF C y d k)) ≤ x) = false := by simp; omega
          have E := Lib.hid (show best (inF C y d (k + 1)) = best (inF C y d k) by rw [NX.out, if_pos c1]; exact in_step c2 (by show 0 ≤ x; omega))
          clear c1 c2 x2 x1
          go_wp2_with fail
          exact ⟨⟨k + 1, by omega, by go_num, by rw [E.out], by rw [E.out], trivial⟩, by simp [intOf]; omega⟩
        · have t1 : decide (x ≤ d) = true := by simpa using c1
          have t2 : decide (inL (best (inF C y d k)) ≤ x) = true := by simp; omega
          have E := Lib.hid (show best (inF C y d (k + 1)) = some (x, (k : Int)) by rw [NX.out, if_pos c1]; exact in_step' c2)
          clear c1 c2 x2 x1
          go_wp2_with fail
          exact ⟨⟨k + 1, by omega, by go_num, by rw [E.out]; rfl, by rw [E.out]; rfl, trivial⟩, by simp [intOf]; omega⟩
      · have t1 : decide (x ≤ d) = false := by simpa using c1
        have E := Lib.hid (show inF C y d (k + 1) = inF C y d k by rw [NX.out, if_neg c1, List.append_nil])
        clear c1 x2 x1
        go_wp2_with fail
        exact ⟨⟨k + 1, by omega, by go_num, by rw [E.out], by rw [E.out], trivial⟩, by simp [intOf]; omega⟩
    · obtain rfl : n = k := by omega
      have FU := Lib.hid (show inF C y d n = (stL C y).filter fun p => decide (p.1 ≤ d) by unfold inF; rw [List.take_of_length_le (by rw [stL_len]; have := HN.out; omega)])
      have BD0 := Lib.hid (inL_bd hG.out y1 y2 (inF_ord C y d n) inF_mem)
      cases e : best (inF C y d n) with
      | some q =>
        have VF := Lib.hid (show (vFind C y d).2 = q.2 by
          rw [FU.out] at e
          unfold vFind vPick
          rw [e])
        have P0 := BD0.out.2.2.2.2 (fun h => by rw [h] at e; cases e)
        rw [e] at P0
        have t0 : decide (0 ≤ inW (some q)) = true := by simpa using P0
        clear P0 e
        go_wp2_with fail
        go_ret2
        exact ⟨_, by rw [VF.out]; rfl, Below.refl _ _⟩
      | none =>
        have VF := Lib.hid (show (vFind C y d).2 = ((best (stL C y)).getD (0, 0)).2 by
          rw [FU.out] at e
          unfold vFind vPick
          rw [e])
        have t0 : decide (0 ≤ inW none) = false := rfl
        clear e BD0 FU
        go_wp2_with fail
        go_loopw [6, 9, 10] (fun wv lv iv wr => ∃ k : Nat, k ≤ n ∧ iv = .int .i64 k ∧ wv = .int .i64 (inW (best ((stL C y).take k))) ∧ lv = .int .i64 (inL (best ((stL C y).take k))) ∧ w = wr) (fun _ _ iv _ => (n - intOf iv).toNat)
        case atStart => exact ⟨0, by omega, rfl, rfl, rfl, rfl⟩
        case round =>
          obtain ⟨k, k1, rfl, rfl, rfl, rfl⟩ := hrel
          by_cases hk : k < n
          · obtain ⟨x, x1, x2, x3⟩ := RD.out k hk
            have hk' : (k : Int) < n := by omega
            have NX := Lib.hid (inG_at x2)
            by_cases c2 : x < inL (best ((stL C y).take k))
            · have t2 : decide (inL (best ((stL C y).take k)) ≤ x) = false := by simp; omega
              have E := Lib.hid (show best ((stL C y).take (k + 1)) = best ((stL C y).take k) by rw [NX.out]; exact in_step c2 (by show 0 ≤ x; omega))
              clear c2 x2 x1
              go_wp2_with fail
              exact ⟨⟨k + 1, by omega, by go_num, by rw [E.out], by rw [E.out], trivial⟩, by simp [intOf]; omega⟩
            · have t2 : decide (inL (best ((stL C y).take k)) ≤ x) = true := by simp; omega
              have E := Lib.hid (show best ((stL C y).take (k + 1)) = some (x, (k : Int)) by rw [NX.out]; exact in_step' c2)
              clear c2 x2 x1
              go_wp2_with fail
              exact ⟨⟨k + 1, by omega, by go_num, by rw [E.out]; rfl, by rw [E.out]; rfl, trivial⟩, by simp [intOf]; omega⟩
          · obtain rfl : n = k := by omega
            have TK := Lib.hid (show (stL C y).take n = stL C y from List.take_of_length_le (by rw [stL_len]; have := HN.out; omega))
            have NE := Lib.hid (show inW (best (stL C y)) = ((best (stL C y)).getD (0, 0)).2 by
              cases e : best (stL C y) with
              | none => have := best_none e; have := stL_len C y; simp_all; have := HN.out; omega
              | some q => rfl)
            go_wp2_with fail
            go_ret2
            exact ⟨_, by rw [TK.out, NE.out, VF.out]; rfl, Below.refl _ _⟩
end Go.Proofs.YtdgaflcnigljlaaGreatDoor
/-
  Contract of reference 19: the candidates of a day. At well-formed small catalogues, years from 1583 to 1000000000. No further condition.
-/
namespace Go.Proofs.YtdgaflcnigljlaaGreatDoor
open Go.RowKit Go.Proofs Go.Proofs.YtdgaflcnigljlaaGreatDoorW.PrintWords
set_option linter.unusedVariables false
theorem info46 : (Tryz.prog.info? 46).map (fun i => (i.zero, i.size, i.bytes)) = some (some (.agg #[.int .i64 0, .int .i64 0, .int .i64 0, .string ⟨#[]⟩]), 4, 40) := by kernel_rfl
structure CnB (w W : World) (C : Cat) (A1 : Option Addr) (n1 c1 : Nat) (A2 : Option Addr) (n2 c2 : Nat) (v : Value) (L : List Cand) : Prop where
  bel : Below w.heap.size w W
  box : Blk W w.heap.size #[.int .i64 C.free, .slice A1 n1 c1, .slice A2 n2 c2] 25
  own : Own W (w.heap.size + 1) 46 4 v (candRows L)
section
variable {w W W2 : World} {C : Cat} {A1 A2 : Option Addr} {n1 c1 n2 c2 : Nat} {v v1 : Value} {L : List Cand}
theorem CnB.below (h : CnB w W C A1 n1 c1 A2 n2 c2 v L) (hb : Below W.heap.size W W2) : CnB w W2 C A1 n1 c1 A2 n2 c2 v L := ⟨below_then h.bel h.bel.size hb, h.box.below hb, h.own.below hb⟩
theorem CnB.app (h : CnB w W C A1 n1 c1 A2 n2 c2 v L) {x : Cand} (ho : Own W2 (w.heap.size + 1) 46 4 v1 (candRows L ++ [x.row])) (hb : Below (w.heap.size + 1) W W2) : CnB w W2 C A1 n1 c1 A2 n2 c2 v1 (L ++ [x]) :=
  ⟨h.bel.trans (hb.mono (Nat.le_succ _)), (hb.block _ (Nat.lt_succ_self _)).trans h.box, by simpa [candRows] using ho⟩
end
theorem cand_one1 (c : Cand) : ∀ u ∈ c.row.toList, u.oneCell' = true := fun u hu => by
  simp only [Cand.row, List.mem_cons, List.not_mem_nil, or_false] at hu
  rcases hu with rfl | rfl | rfl | rfl <;> rfl
/-- An element that lies in a block of its own, appended. -/
theorem step_lit {P : Program} {ops : Array Oper} {o : Oper} {a : Act} {K : Act → World → Prop} {Q : Exit → Act → World → Prop} {E : Prop} {W : World} {base sz bytes : Nat} {z : Value} {rows : List (Array Value)} (t e : TypeId) (hgd : o.guard = none) (s x : Operand)
    (ho : o.op = .call { callee := .builtin .append, args := #[s, x], argTypes := #[t, t] })
    (ht : P.underlying t = some (.slice e)) (hinfo : (P.info? e).map (fun i => (i.zero, i.size, i.bytes)) = some (some z, sz, bytes)) (hz : z.cells.size = sz) (hsz : 0 < sz) (hb0 : 0 < bytes)
    (v : Value) (hs : a.eval s = v) (cs : Array Value) (A : Nat) (hx : a.eval x = .slice (some ⟨A, 0, none⟩) 1 1) (hA : Blk W A cs e) (hcs : cs.size = sz) (h1 : ∀ u ∈ cs.toList, u.oneCell' = true)
    (HO : Own W base e sz v rows) (hbase : base ≤ W.heap.size) (hl : (rows.length + 1) * bytes ≤ 140737488355328)
    (h : ∀ v1 w1, Own w1 base e sz v1 (rows ++ [cs]) → Below base W w1 → W.grownBy w1 v.ownBlock → K (a.put o.dst v1) w1) :
    if Region.wanted o (yielded ops a.tmps) = true then Oper.wp P o a W K Q else E := by
  obtain ⟨i0, hi, hzz⟩ := Option.map_eq_some_iff.1 hinfo
  simp only [Prod.mk.injEq] at hzz
  obtain ⟨hz0, hz1, hz2⟩ := hzz
  have hlen : rows.length + 1 ≤ 140737488355328 := Nat.le_trans (Nat.le_mul_of_pos_right _ hb0) hl
  refine step_append_lies _ hgd s x t ho base e i0 z sz bytes ht hi hz0 hz1 hz2 hz hsz v rows.length _ hs HO.1 ⟨A, 0, none⟩ 1 1 cs.toList hx (by simp [hcs])
    (World.news_of_block (cs := cs) (t := e) (fr := (0, 0)) hA) h1 (by omega) (by simp only [maxLen]; omega) hl hbase _ rfl ?_
  intro gg cap w1 hown hg hat hlt
  refine h _ w1 ⟨by simpa using hown, fun r hr => ?_⟩ ((Below.refl base W).grown hg hbase (own_base HO.1)) hg
  rcases List.mem_append.1 hr with hr | hr
  · exact HO.2 r hr
  · simp at hr; rw [hr]; exact hcs
theorem dy_at {C : Cat} {y : Int} {k : Nat} {f : Fea} (h : C.feas[k]? = some f) : (intRows (vDy C y))[k]? = some #[.int .i64 (f.at_.day y)] := by
  simp [intRows, vDy, h]
set_option maxRecDepth 20000 in
set_option maxHeartbeats 1000000 in
theorem rcand_c (C : Cat) (A1 : Option Addr) (n1 c1 : Nat) (A2 : Option Addr) (n2 c2 : Nat) (y d : Int) (v1 v2 : Value) (b : Nat) (w : World) (hI : Hid (CatIn w C A1 n1 c1 A2 n2 c2)) (hG : Hid C.Good) (y1 : 1583 ≤ y) (y2 : y ≤ 1000000000) (d1 : -1000000000000 ≤ d) (d2 : d ≤ 1000000000000) (hO : Hid (Own w b 3 1 v1 (intRows (vSt C y)))) (hD : Hid (Own w b 3 1 v2 (intRows (vDy C y)))) :
    Calls Tryz.prog 16 #[.agg #[.int .i64 C.free, .slice A1 n1 c1, .slice A2 n2 c2], v1, v2, .int .i64 d] w fun e w' => ∃ v, e = .returned v ∧ Own w' w.heap.size 46 4 v (candRows (vCands C y d)) ∧ Below w.heap.size w w' := by
  have HR := Lib.hid (RgB.new w C A1 n1 c1 A2 n2 c2)
  obtain ⟨i0, i1, i2⟩ := find_idx (y := y) (d := d) hG.out
  have n31 : n2 ≤ 31 := by have := hG.out.n3; have := hI.out.e2; omega
  have n8 : n1 ≤ 8 := by have := hG.out.n2; have := hI.out.e1; omega
  obtain ⟨ad, ha, hr⟩ := hI.out.sea (vFind C y d).2.toNat (vSea C y d).cells (by rw [List.getElem?_map, i2]; rfl)
  subst ha
  have HS := Lib.hid hr
  have TD := Lib.hid (show vTemp C y d = ⟨1, (vFind C y d).2, if d % 7 = 0 then (vSea C y d).sun else (vSea C y d).wk, (vSea C y d).id⟩ from rfl)
  have IX := Lib.hid i2
  obtain ⟨ix, hix⟩ : ∃ ix : Nat, (vFind C y d).2 = ix := ⟨(vFind C y d).2.toNat, by omega⟩
  have ix1 : ix < n1 := by have := hI.out.e1; omega
  have HX := Lib.hid hix
  rw [hix] at TD HS
  simp only [Int.toNat_natCast] at HS
  have ix1' : (ix : Int) < n1 := by omega
  clear hr i0 i1 i2 hix
  go_enter Tryz.func16, Tryz.ntmps16
  go_upto_region 2 with (first | (go_at_call 37; with_reducible refine (rin_c C y d v1 b _ hG y1 y2 (Lib.hid (hO.out.below HR.out.bel))).mono ?_; rintro e w1 ⟨x, rfl, hb1⟩; rw [HX.out]; replace HR := Lib.hid (HR.out.below hb1); clear hb1))
  obtain ⟨⟨x0, x1, x2⟩, _⟩ := HR.out.box.c3
  have xl := HR.out.box.lt
  obtain ⟨a0, a1, a2, a3, a4, a5, a6, a7, a8⟩ := RowIs.nine (HS.out.below HR.out.bel)
  have plt := (HS.out.below HR.out.bel).lt rfl
  generalize vSea C y d = S at *
  go_upto_region 3 with fail
  clear a0 a1 a2 a3 a4 a5 a6 a7 a8 plt
  have HQ := Lib.hid (Blk.new w1 S.cells 67)
  replace HR := Lib.hid (HR.out.below ((Below.refl _ _).alloc (Nat.le_refl _) (.cells S.cells 67)))
  have QL := Lib.hid HR.out.box.lt
  obtain ⟨qb, hqb⟩ : ∃ k, w1.heap.size = k := ⟨_, rfl⟩
  rw [hqb] at HQ ⊢
  clear hqb x0 x1 x2 xl
  generalize w1.alloc (.cells S.cells 67) = W1 at *
  obtain ⟨⟨a0, a1, a2, a3, a4, a5, a6, a7, a8⟩, ql⟩ := HQ.out.c9
  go_upto_region 4 with fail
  have HC := Lib.hid (show CnB w (W1.alloc (.cells (Cand.row ⟨1, ix, S.wk, S.id⟩) 46)) C (some ad) n1 c1 A2 n2 c2 (.slice (some ⟨W1.heap.size, 0, none⟩) 1 1) [⟨1, ix, S.wk, S.id⟩] from ⟨(HR.out.below ((Below.refl _ _).alloc (Nat.le_refl _) _)).bel, HR.out.box.alloc _, Own.lit W1 (Cand.row ⟨1, ix, S.wk, S.id⟩) 46 rfl QL.out⟩)
  have GB := Lib.hid (Blk.new W1 (Cand.row ⟨1, ix, S.wk, S.id⟩) 46)
  replace HQ := Lib.hid (HQ.out.alloc (.cells (Cand.row ⟨1, ix, S.wk, S.id⟩) 46))
  clear a0 a1 a2 a3 a4 a5 a6 a7 a8 ql
  replace QL := Lib.hid (show w.heap.size < W1.heap.size from QL.out)
  generalize W1.heap.size = G at HC GB QL ⊢
  generalize W1.alloc (.cells (Cand.row ⟨1, ix, S.wk, S.id⟩) 46) = W2 at *
  go_cut [34] (fun v wy => v = .bool (d % 7 == 0) ∧ W2 = wy)
  case first =>
    go_wp2_with ((go_at_call 38; with_reducible refine (rof_c _ _ (by omega) (by omega)).mono ?_; rintro e w3 ⟨rfl, rfl⟩))
    go_meet
    exact ⟨rfl, rfl⟩
  case rest =>
  obtain ⟨rfl, rfl⟩ := hcut
  go_step
  go_cut [] (fun wy => Hid (CnB w wy C (some ad) n1 c1 A2 n2 c2 (.slice (some ⟨G, 0, none⟩) 1 1) [vTemp C y d]))
  case first =>
    by_cases e7 : d % 7 = 0
    · have t7 : (d % 7 == 0) = true := by simpa using e7
      have TE := Lib.hid (show vTemp C y d = ⟨1, ix, S.sun, S.id⟩ by rw [TD.out, if_pos e7])
      clear e7
      obtain ⟨⟨a0, a1, a2, a3, a4, a5, a6, a7, a8⟩, ql⟩ := HQ.out.c9
      have g2 : W2.cell? ⟨G, 2, none⟩ = some (.int .i64 S.wk) := GB.out.cell 2
      have f2 := GB.out.frozen 2
      have gl := GB.out.lt
      have HN := Lib.hid (show CnB w (W2.setCell ⟨G, 2, none⟩ (.int .i64 S.sun)) C (some ad) n1 c1 A2 n2 c2 (.slice (some ⟨G, 0, none⟩) 1 1) [vTemp C y d] from ⟨HC.out.bel.setCell (Nat.le_of_lt QL.out) _, HC.out.box.far (Nat.ne_of_lt QL.out) _, by rw [TE.out]; exact (HC.out.own.set (k := 0) (j := 2) (cs := Cand.row ⟨1, ix, S.wk, S.id⟩) rfl (by decide) (.int .i64 S.sun)).1⟩)
      go_wp2_with fail
      go_meet
      exact HN
    · have t7 : (d % 7 == 0) = false := by simpa using e7
      have TE := Lib.hid (show vTemp C y d = ⟨1, ix, S.wk, S.id⟩ by rw [TD.out, if_neg e7])
      clear e7
      go_wp2_with fail
      go_meet
      exact Lib.hid (by rw [TE.out]; exact HC.out)
  case rest =>
  replace HC := hcut
  clear TD HQ GB QL IX HR HS
  go_wp2_with fail
  go_loopw [12, 13] (fun o i wr => ∃ (k : Nat) (v : Value), k ≤ n2 ∧ i = .int .i64 k ∧ v = o ∧ Hid (CnB w wr C (some ad) n1 c1 A2 n2 c2 v (vTemp C y d :: vPropL C y k d))) (fun _ i _ => (n2 - intOf i).toNat)
  case atStart => exact ⟨0, _, by omega, rfl, rfl, HC⟩
  case round =>
    clear HC
    obtain ⟨k, v, k1, rfl, rfl, HK⟩ := hrel
    obtain ⟨⟨x0, x1, x2⟩, _⟩ := HK.out.box.c3
    have xl := HK.out.box.lt
    by_cases hk : k < n2
    · obtain ⟨f, hf⟩ : ∃ f, C.feas[k]? = some f := ⟨_, List.getElem?_eq_getElem (by have := hI.out.e2; omega)⟩
      have hk' : (k : Int) < n2 := by omega
      obtain ⟨g2, cap2, rfl, _, _, _⟩ := hD.out.ne (n := n2) (by simp [intRows, vDy]; exact hI.out.e2.symm) (by omega)
      have dc : wr.cell? ⟨g2, k, none⟩ = some (.int .i64 (f.at_.day y)) := (hD.out.below HK.out.bel).at1 rfl k _ (dy_at hf)
      have dl : g2 < wr.heap.size := ((hD.out.below HK.out.bel).block g2 rfl).2
      have PS := Lib.hid (vPropL_succ (y := y) hf d)
      have PL := Lib.hid (show (vPropL C y k d).length ≤ 31 by
        have : (vPropL C y k d).length ≤ ((C.feas.take k).zipIdx).length := List.length_filterMap_le _ _
        rw [List.length_zipIdx, List.length_take] at this
        omega)
      obtain ⟨ad2, ha2, hr2⟩ := hI.out.fea k f.cells (by rw [List.getElem?_map, hf]; rfl)
      by_cases e : f.at_.day y = d
      · have te : (f.at_.day y == d) = true := by simpa using e
        have P2 := Lib.hid (show vPropL C y (k + 1) d = vPropL C y k d ++ [⟨2, k, f.rank, f.id⟩] by rw [PS.out, if_pos e])
        clear e PS hf
        subst ha2
        have ABL : (ad2.add (k * 9)).block < w.heap.size + 1 := Nat.lt_succ_of_lt (hr2.lt rfl)
        have HC : ∀ V, Below (w.heap.size + 1) wr V → V.cell? ⟨w.heap.size, 2, none⟩ = some (.slice (some ad2) n2 c2) ∧ V.cell? (ad2.add (k * 9)) = some (.string f.id) ∧ V.cell? ⟨(ad2.add (k * 9)).block, (ad2.add (k * 9)).off + 1, none⟩ = some (.int .i64 f.rank) := fun V h =>
          ⟨(h.cell (Nat.lt_succ_self _)).trans (HK.out.box.cell 2), (h.cell ABL).trans ((RowIs.nine (hr2.below HK.out.bel)).1), (h.cell (p := ⟨(ad2.add (k * 9)).block, (ad2.add (k * 9)).off + 1, none⟩) ABL).trans ((RowIs.nine (hr2.below HK.out.bel)).2.1)⟩
        clear hr2
        go_upto_region 10 with fail
        have hB : Below (w.heap.size + 1) wr wr.drew := (Below.refl _ _).drew
        have hA := ((Below.refl (w.heap.size + 1) wr).alloc (show w.heap.size + 1 ≤ wr.heap.size from HK.out.box.lt) (.cells (Cand.row ⟨2, k, f.rank, f.id⟩) 46)).drew
        have HOA := Lib.hid ((HK.out.own.alloc (.cells (Cand.row ⟨2, k, f.rank, f.id⟩) 46)).below (Below.refl _ _).drew)
        have BA := Lib.hid ((Blk.new wr (Cand.row ⟨2, k, f.rank, f.id⟩) 46).drew)
        have hl : ((candRows (vTemp C y d :: vPropL C y k d)).length + 1) * 40 ≤ 140737488355328 := by rw [candRows, List.length_map, List.length_cons]; have := PL.out; omega
        have hbs : w.heap.size + 1 ≤ (wr.alloc (.cells (Cand.row ⟨2, k, f.rank, f.id⟩) 46)).drew.heap.size := Nat.le_trans HK.out.box.lt hA.size
        obtain ⟨_, x2', _⟩ := HC _ (Below.refl _ _)
        go_region_held3 (fun w' => w'.cell? ⟨w.heap.size, 2, none⟩ = some (.slice (some ad2) n2 c2) ∧ w'.cell? (ad2.add (k * 9)) = some (.string f.id) ∧ w'.cell? ⟨(ad2.add (k * 9)).block, (ad2.add (k * 9)).off + 1, none⟩ = some (.int .i64 f.rank))
            (first
              | (with_reducible exact HC _ hB)
              | (with_reducible exact HC _ hA))
            (first
              | (refine step_lit 50 46 rfl _ _ rfl Tryz.underlying50 info46 rfl (by decide) (by decide) v rfl (Cand.row ⟨2, k, f.rank, f.id⟩) wr.heap.size rfl BA.out rfl (cand_one1 _) HOA.out hbs hl ?_; intro v6 w6 ho6 hb6 hg6; replace hB := hA.trans hb6; have HN := Lib.hid (HK.out.app ho6 hB); clear ho6 hb6 hg6))
        all_goals (go_wp2_with fail)
        all_goals exact ⟨⟨k + 1, v6, by omega, by go_num, rfl, by rw [P2.out]; exact HN⟩, by simp [intOf]; omega⟩
      · have te : (f.at_.day y == d) = false := by simpa using e
        have P2 := Lib.hid (show vPropL C y (k + 1) d = vPropL C y k d by rw [PS.out, if_neg e, List.append_nil])
        clear e PS hf hr2
        subst ha2
        go_wp2_with fail
        exact ⟨⟨k + 1, v, by omega, by go_num, rfl, by rw [P2.out]; exact HK⟩, by simp [intOf]; omega⟩
    · obtain rfl : n2 = k := by omega
      have VC := Lib.hid (show vTemp C y d :: vPropL C y n2 d = vCands C y d by unfold vCands; rw [hI.out.e2])
      go_wp2_with fail
      go_ret
      exact ⟨v, rfl, by have := HK.out.own; rw [VC.out] at this; exact this.less (Nat.le_succ _), HK.out.bel⟩
end Go.Proofs.YtdgaflcnigljlaaGreatDoor
/-
  Contract of reference 20: sorting of candidates by laying each in its place. At at most thirty-two candidates of which of each two one precedes. No further condition.
-/
namespace Go.Proofs.YtdgaflcnigljlaaGreatDoor
open Go.RowKit Go.Proofs Go.Proofs.YtdgaflcnigljlaaGreatDoorW.PrintWords
set_option linter.unusedVariables false
def insP (x : Cand) : List Cand → List Cand
  | [] => [x]
  | a :: l => if Prec x a then x :: a :: l else a :: insP x l
def anyP (x : Cand) (l : List Cand) : Bool := l.any fun b => decide (Prec x b)
def nxtP (x : Cand) (l : List Cand) : List Cand := if anyP x l = true then insP x l else l
theorem insP_not {x : Cand} {l : List Cand} (h : anyP x l = false) : insP x l = l ++ [x] := by
  induction l with
  | nil => rfl
  | cons a l ih =>
    simp only [anyP, List.any_cons, Bool.or_eq_false_iff, decide_eq_false_iff_not] at h
    simp only [insP, if_neg h.1, List.cons_append]
    rw [ih h.2]
theorem insP_yes {x a : Cand} {l : List Cand} (h : anyP x l = true) : insP x (l ++ [a]) = insP x l ++ [a] := by
  induction l with
  | nil => simp [anyP] at h
  | cons b l ih =>
    simp only [List.cons_append, insP]
    by_cases c : Prec x b
    · rw [if_pos c, if_pos c]; rfl
    · rw [if_neg c, if_neg c, List.cons_append]
      rw [ih]
      simpa [anyP, c] using h
theorem insP_new {x a : Cand} {l : List Cand} (h : anyP x l = false) (c : Prec x a) : insP x (l ++ [a]) = l ++ [x, a] := by
  induction l with
  | nil => simp [insP, c]
  | cons b l ih =>
    simp only [anyP, List.any_cons, Bool.or_eq_false_iff, decide_eq_false_iff_not] at h
    simp only [List.cons_append, insP, if_neg h.1]
    rw [ih h.2]
theorem anyP_snoc (x a : Cand) (l : List Cand) : anyP x (l ++ [a]) = (anyP x l || decide (Prec x a)) := by simp [anyP]
theorem nxt_1 {x a : Cand} {l : List Cand} (h : anyP x l = true) : nxtP x (l ++ [a]) = nxtP x l ++ [a] ∧ anyP x (l ++ [a]) = true := by
  have e : anyP x (l ++ [a]) = true := by rw [anyP_snoc, h]; rfl
  unfold nxtP
  rw [if_pos e, if_pos h]
  exact ⟨insP_yes h, e⟩
theorem nxt_2 {x a : Cand} {l : List Cand} (h : anyP x l = false) (c : Prec x a) : nxtP x (l ++ [a]) = (nxtP x l ++ [x]) ++ [a] ∧ anyP x (l ++ [a]) = true := by
  have e : anyP x (l ++ [a]) = true := by rw [anyP_snoc, h, decide_eq_true c]; rfl
  unfold nxtP
  rw [if_pos e, if_neg (by rw [h]; decide)]
  exact ⟨by rw [insP_new h c]; simp, e⟩
theorem nxt_3 {x a : Cand} {l : List Cand} (h : anyP x l = false) (c : ¬ Prec x a) : nxtP x (l ++ [a]) = nxtP x l ++ [a] ∧ anyP x (l ++ [a]) = false := by
  have e : anyP x (l ++ [a]) = false := by rw [anyP_snoc, h, decide_eq_false c]; rfl
  unfold nxtP
  rw [if_neg (by rw [e]; decide), if_neg (by rw [h]; decide)]
  exact ⟨rfl, e⟩
theorem insP_perm (x : Cand) (l : List Cand) : (insP x l).Perm (x :: l) := by
  induction l with
  | nil => exact .refl _
  | cons a l ih =>
    simp only [insP]
    by_cases c : Prec x a
    · rw [if_pos c]
    · rw [if_neg c]; exact (ih.cons a).trans (List.Perm.swap x a l)
theorem insP_ord {x : Cand} {l : List Cand} (h : l.Pairwise Prec) (ht : ∀ a ∈ l, Prec x a ∨ Prec a x) : (insP x l).Pairwise Prec := by
  induction l with
  | nil => exact List.pairwise_singleton _ _
  | cons a l ih =>
    obtain ⟨h1, h2⟩ := List.pairwise_cons.1 h
    simp only [insP]
    by_cases c : Prec x a
    · rw [if_pos c]
      refine List.pairwise_cons.2 ⟨fun b hb => ?_, h⟩
      rcases List.mem_cons.1 hb with rfl | hb
      · exact c
      · exact c.trans (h1 b hb)
    · rw [if_neg c]
      refine List.pairwise_cons.2 ⟨fun b hb => ?_, ih h2 fun b hb => ht b (.tail _ hb)⟩
      rcases List.mem_cons.1 ((insP_perm x l).mem_iff.1 hb) with rfl | hb
      · exact (ht a (.head _)).resolve_left c
      · exact h1 b hb
def srtC (l : List Cand) : List Cand := l.foldl (fun S x => insP x S) []
theorem srtC_snoc (l : List Cand) (x : Cand) : srtC (l ++ [x]) = insP x (srtC l) := by simp [srtC]
theorem srtC_gen {l S : List Cand} (h : Tot (l ++ S)) (ho : S.Pairwise Prec) : (l.foldl (fun S x => insP x S) S).Perm (l ++ S) ∧ (l.foldl (fun S x => insP x S) S).Pairwise Prec := by
  induction l generalizing S with
  | nil => exact ⟨.refl _, ho⟩
  | cons x l ih =>
    rw [List.cons_append] at h
    obtain ⟨h1, h2⟩ := List.pairwise_cons.1 h
    have hp : (l ++ insP x S).Perm (x :: (l ++ S)) := ((insP_perm x S).append_left l).trans List.perm_middle
    obtain ⟨p, o⟩ := ih (S := insP x S) (Tot.perm h hp) (insP_ord ho fun a ha => h1 a (List.mem_append_right _ ha))
    exact ⟨p.trans hp, o⟩
theorem srtC_ok {l : List Cand} (h : Tot l) : (srtC l).Perm l ∧ (srtC l).Pairwise Prec := by
  have := srtC_gen (l := l) (S := []) (by rw [List.append_nil]; exact h) List.Pairwise.nil
  rwa [List.append_nil] at this
theorem srtC_eq {l : List Cand} (h : Tot l) : srtC l = vSort l := vSort_uniq (srtC_ok h).1 (srtC_ok h).2 h
theorem srtC_len {l : List Cand} (h : Tot l) : (srtC l).length = l.length := (srtC_ok h).1.length_eq
structure SoB (w W : World) (v : Value) (N : List Cand) : Prop where
  bel : Below w.heap.size w W
  own : Own W w.heap.size 46 4 v (candRows N)
theorem SoB.below {w W W2 : World} {v : Value} {N : List Cand} (h : SoB w W v N) (hb : Below W.heap.size W W2) : SoB w W2 v N := ⟨below_then h.bel h.bel.size hb, h.own.below hb⟩
theorem so_snoc {W : World} {b : Nat} {v : Value} {N : List Cand} {x : Cand} (h : Own W b 46 4 v (candRows N ++ [x.row])) : Own W b 46 4 v (candRows (N ++ [x])) := by simpa [candRows] using h
theorem cand_cells {W : World} {b g n c : Nat} {L : List Cand} {k : Nat} {p : Cand} (h : Own W b 46 4 (.slice (some ⟨g, 0, none⟩) n c) (candRows L)) (hk : L[k]? = some p) : (W.cell? ⟨g, k * 4, none⟩ = some (.int .i64 p.kind) ∧ W.cell? ⟨g, k * 4 + 1, none⟩ = some (.int .i64 p.idx) ∧ W.cell? ⟨g, k * 4 + 2, none⟩ = some (.int .i64 p.rank) ∧ W.cell? ⟨g, k * 4 + 3, none⟩ = some (.string p.id)) ∧ g < W.heap.size := by
  obtain ⟨g', cap', he, _, hl, _, hc⟩ := h.cell (k := k) (cs := p.row) (by simp [candRows, hk])
  simp only [Value.slice.injEq, Option.some.injEq, Addr.mk.injEq, and_true] at he
  obtain ⟨rfl, _⟩ := he
  exact ⟨⟨(hc 0 (by omega)).1, (hc 1 (by omega)).1, (hc 2 (by omega)).1, (hc 3 (by omega)).1⟩, hl⟩
set_option maxRecDepth 20000 in
set_option maxHeartbeats 1000000 in
theorem rsort_c (L : List Cand) (g n c b : Nat) (w : World) (hO : Hid (Own w b 46 4 (.slice (some ⟨g, 0, none⟩) n c) (candRows L))) (hn : Hid (n = L.length)) (ht : Hid (Tot L)) (h32 : n ≤ 32) :
    Calls Tryz.prog 36 #[.slice (some ⟨g, 0, none⟩) n c] w fun e w' => ∃ v, e = .returned v ∧ Own w' w.heap.size 46 4 v (candRows (vSort L)) ∧ Below w.heap.size w w' := by
  have H0 := Lib.hid (show SoB w w (.slice none 0 0) (srtC (L.take 0)) from ⟨Below.refl _ _, Own.nil _ _ _ _⟩)
  go_enter Tryz.func36, Tryz.ntmps36
  go_wp2_with fail
  go_loopw [3, 4] (fun s i wr => ∃ (k : Nat) (v : Value), k ≤ n ∧ i = .int .i64 k ∧ v = s ∧ Hid (SoB w wr v (srtC (L.take k)))) (fun _ i _ => (n - intOf i).toNat)
  case atStart => exact ⟨0, _, by omega, rfl, rfl, H0⟩
  case round =>
    clear H0
    obtain ⟨k, v, k1, rfl, rfl, HS⟩ := hrel
    by_cases hk : k < n
    · have hk' : (k : Int) < n := by omega
      obtain ⟨x, hx⟩ : ∃ x, L[k]? = some x := ⟨_, List.getElem?_eq_getElem (by have := hn.out; omega)⟩
      have HX := Lib.hid hx
      have TT := Lib.hid (show Tot (L.take k) from ht.out.sublist (List.take_sublist _ _))
      have LN := Lib.hid (show (srtC (L.take k)).length = k by rw [srtC_len TT.out, List.length_take]; have := hn.out; omega)
      have NX := Lib.hid (show srtC (L.take (k + 1)) = insP x (srtC (L.take k)) by rw [List.take_add_one, hx, Option.toList_some, srtC_snoc])
      clear hx
      generalize srtC (L.take k) = S at *
      obtain ⟨As, cs, e1, _⟩ := HS.out.own.form
      rw [candRows, List.length_map, LN.out] at e1
      subst e1
      obtain ⟨wo, hwo⟩ : ∃ wo, wo = wr := ⟨_, rfl⟩
      subst hwo
      have HI0 := Lib.hid (show SoB wo wo (.slice none 0 0) (nxtP x (S.take 0)) from ⟨Below.refl _ _, Own.nil _ _ _ _⟩)
      go_wp2_with fail
      go_loopw [5, 6, 7] (fun o p j w2 => ∃ (m : Nat) (u : Value), m ≤ k ∧ j = .int .i64 m ∧ p = .bool (anyP x (S.take m)) ∧ u = o ∧ Hid (SoB wo w2 u (nxtP x (S.take m)))) (fun _ _ j _ => (k - intOf j).toNat)
      case atStart => exact ⟨0, _, by omega, rfl, rfl, rfl, HI0⟩
      case round =>
        clear HI0
        obtain ⟨m, u, m1, rfl, rfl, rfl, HI⟩ := hrel
        obtain ⟨⟨l0, l1, l2, l3⟩, ll⟩ := cand_cells (hO.out.below (below_then HS.out.bel HS.out.bel.size HI.out.bel)) HX.out
        have NLN := Lib.hid (show (nxtP x (S.take m)).length ≤ 33 by
          have a1 : (S.take m).length ≤ k := by rw [List.length_take, LN.out]; omega
          unfold nxtP
          split
          · rw [(insP_perm x _).length_eq, List.length_cons]; omega
          · omega)
        have K1 := Lib.hid (show ((candRows (nxtP x (S.take m))).length + 1) * 40 ≤ 140737488355328 by rw [candRows, List.length_map]; have := NLN.out; omega)
        have K2 := Lib.hid (show ((candRows (nxtP x (S.take m) ++ [x])).length + 1) * 40 ≤ 140737488355328 by rw [candRows, List.length_map, List.length_append]; have := NLN.out; simp; omega)
        by_cases hm : m < k
        · have hm' : (m : Int) < k := by omega
          obtain ⟨a, ha⟩ : ∃ a, S[m]? = some a := ⟨_, List.getElem?_eq_getElem (by rw [LN.out]; exact hm)⟩
          have HA := Lib.hid ha
          have NT := Lib.hid (show S.take (m + 1) = S.take m ++ [a] by rw [List.take_add_one, ha, Option.toList_some])
          obtain ⟨gs, caps, hs, _⟩ := HS.out.own.cell (k := m) (cs := a.row) (by simp [candRows, ha])
          simp only [Value.slice.injEq] at hs
          obtain ⟨rfl, -, -⟩ := hs
          clear ha
          obtain ⟨⟨s0, s1, s2, s3⟩, sl⟩ := cand_cells (HS.out.own.below HI.out.bel) HA.out
          cases hany : anyP x (S.take m) with
          | true =>
            have E := Lib.hid (nxt_1 (a := a) hany)
            rw [← NT.out] at E
            go_upto_region 10 with fail
            go_quiet (fail)
            replace HI := Lib.hid (HI.out.below (below_drewN (Below.refl _ _) nq))
            obtain ⟨⟨s0, s1, s2, s3⟩, sl⟩ := cand_cells (HS.out.own.below HI.out.bel) HA.out
            go_wp2_with (at_builtin; refine own_app (w0 := wo) 50 46 rfl (.tmp 40) (.tmp 45) rfl Tryz.underlying50 info46 rfl (by decide) (by decide) u rfl (Cand.row a) rfl rfl (cand_one1 _) HI.out.own HI.out.bel HI.out.bel.size K1.out ?_; intro u2 w3 ho hb hg _; replace HI := Lib.hid (SoB.mk hb (so_snoc ho)); clear ho hb hg)
            exact ⟨⟨m + 1, u2, by omega, by go_num, by rw [E.out.2], rfl, by rw [E.out.1]; exact HI⟩, by simp [intOf]; omega⟩
          | false =>
            by_cases c : Prec x a
            · have E := Lib.hid (nxt_2 (a := a) hany c)
              rw [← NT.out] at E
              have DC := Lib.hid (show decide (Prec x a) = true from decide_eq_true c)
              go_upto_region 10 with fail
              go_cut [32] (fun v wy => v = .bool true ∧ Hid (SoB wo wy u (nxtP x (S.take m))))
              case first =>
                have hB : Below wr.heap.size wr wr.drew := (Below.refl _ _).drew
                have HC : ∀ V, Below wr.heap.size wr V → (V.cell? ⟨g, k * 4, none⟩ = some (.int .i64 x.kind) ∧ V.cell? ⟨g, k * 4 + 1, none⟩ = some (.int .i64 x.idx) ∧ V.cell? ⟨g, k * 4 + 2, none⟩ = some (.int .i64 x.rank) ∧ V.cell? ⟨g, k * 4 + 3, none⟩ = some (.string x.id)) ∧ (V.cell? ⟨gs, m * 4, none⟩ = some (.int .i64 a.kind) ∧ V.cell? ⟨gs, m * 4 + 1, none⟩ = some (.int .i64 a.idx) ∧ V.cell? ⟨gs, m * 4 + 2, none⟩ = some (.int .i64 a.rank) ∧ V.cell? ⟨gs, m * 4 + 3, none⟩ = some (.string a.id)) := fun V h => ⟨⟨(h.cell ll).trans l0, (h.cell ll).trans l1, (h.cell ll).trans l2, (h.cell ll).trans l3⟩, ⟨(h.cell sl).trans s0, (h.cell sl).trans s1, (h.cell sl).trans s2, (h.cell sl).trans s3⟩⟩
                go_region_held3 (fun V => (V.cell? ⟨g, k * 4, none⟩ = some (.int .i64 x.kind) ∧ V.cell? ⟨g, k * 4 + 1, none⟩ = some (.int .i64 x.idx) ∧ V.cell? ⟨g, k * 4 + 2, none⟩ = some (.int .i64 x.rank) ∧ V.cell? ⟨g, k * 4 + 3, none⟩ = some (.string x.id)) ∧ (V.cell? ⟨gs, m * 4, none⟩ = some (.int .i64 a.kind) ∧ V.cell? ⟨gs, m * 4 + 1, none⟩ = some (.int .i64 a.idx) ∧ V.cell? ⟨gs, m * 4 + 2, none⟩ = some (.int .i64 a.rank) ∧ V.cell? ⟨gs, m * 4 + 3, none⟩ = some (.string a.id)))
                  (first | (with_reducible exact HC _ hB))
                  (first | (go_at_call 64; with_reducible refine (rprec_c x a _).mono ?_; rintro e w3 ⟨rfl, hb⟩; rw [DC.out]; have HI3 := Lib.hid ((HI.out.below (Below.refl _ _).drew).below hb); replace hB := hB.trans (hb.mono hB.size); clear hb))
                all_goals (go_wp2_with fail)
                all_goals go_meet
                all_goals exact ⟨rfl, HI3⟩
              case rest =>
              obtain ⟨rfl, HI⟩ := hcut
              clear s0 s1 s2 s3 sl l0 l1 l2 l3 ll
              obtain ⟨⟨l0, l1, l2, l3⟩, ll⟩ := cand_cells (hO.out.below (below_then HS.out.bel HS.out.bel.size HI.out.bel)) HX.out
              obtain ⟨⟨s0, s1, s2, s3⟩, sl⟩ := cand_cells (HS.out.own.below HI.out.bel) HA.out
              go_wp2_with (first | (at_builtin; refine own_app (w0 := wo) 50 46 rfl (.tmp 33) (.tmp 38) rfl Tryz.underlying50 info46 rfl (by decide) (by decide) u rfl (Cand.row x) rfl rfl (cand_one1 _) HI.out.own HI.out.bel HI.out.bel.size K1.out ?_; intro u2 w3 ho hb hg _; replace HI := Lib.hid (SoB.mk hb (so_snoc ho)); clear ho hb hg; clear s0 s1 s2 s3 sl l0 l1 l2 l3 ll; obtain ⟨⟨s0, s1, s2, s3⟩, sl⟩ := cand_cells (HS.out.own.below HI.out.bel) HA.out) | (at_builtin; refine own_app (w0 := wo) 50 46 rfl (.tmp 40) (.tmp 45) rfl Tryz.underlying50 info46 rfl (by decide) (by decide) u2 rfl (Cand.row a) rfl rfl (cand_one1 _) HI.out.own HI.out.bel HI.out.bel.size K2.out ?_; intro u3 w3 ho hb hg _; replace HI := Lib.hid (SoB.mk hb (so_snoc ho)); clear ho hb hg))
              exact ⟨⟨m + 1, u3, by omega, by go_num, by rw [E.out.2], rfl, by rw [E.out.1]; exact HI⟩, by simp [intOf]; omega⟩
            · have E := Lib.hid (nxt_3 (a := a) hany c)
              rw [← NT.out] at E
              have DC := Lib.hid (show decide (Prec x a) = false from decide_eq_false c)
              go_upto_region 10 with fail
              go_cut [32] (fun v wy => v = .bool false ∧ Hid (SoB wo wy u (nxtP x (S.take m))))
              case first =>
                have hB : Below wr.heap.size wr wr.drew := (Below.refl _ _).drew
                have HC : ∀ V, Below wr.heap.size wr V → (V.cell? ⟨g, k * 4, none⟩ = some (.int .i64 x.kind) ∧ V.cell? ⟨g, k * 4 + 1, none⟩ = some (.int .i64 x.idx) ∧ V.cell? ⟨g, k * 4 + 2, none⟩ = some (.int .i64 x.rank) ∧ V.cell? ⟨g, k * 4 + 3, none⟩ = some (.string x.id)) ∧ (V.cell? ⟨gs, m * 4, none⟩ = some (.int .i64 a.kind) ∧ V.cell? ⟨gs, m * 4 + 1, none⟩ = some (.int .i64 a.idx) ∧ V.cell? ⟨gs, m * 4 + 2, none⟩ = some (.int .i64 a.rank) ∧ V.cell? ⟨gs, m * 4 + 3, none⟩ = some (.string a.id)) := fun V h => ⟨⟨(h.cell ll).trans l0, (h.cell ll).trans l1, (h.cell ll).trans l2, (h.cell ll).trans l3⟩, ⟨(h.cell sl).trans s0, (h.cell sl).trans s1, (h.cell sl).trans s2, (h.cell sl).trans s3⟩⟩
                go_region_held3 (fun V => (V.cell? ⟨g, k * 4, none⟩ = some (.int .i64 x.kind) ∧ V.cell? ⟨g, k * 4 + 1, none⟩ = some (.int .i64 x.idx) ∧ V.cell? ⟨g, k * 4 + 2, none⟩ = some (.int .i64 x.rank) ∧ V.cell? ⟨g, k * 4 + 3, none⟩ = some (.string x.id)) ∧ (V.cell? ⟨gs, m * 4, none⟩ = some (.int .i64 a.kind) ∧ V.cell? ⟨gs, m * 4 + 1, none⟩ = some (.int .i64 a.idx) ∧ V.cell? ⟨gs, m * 4 + 2, none⟩ = some (.int .i64 a.rank) ∧ V.cell? ⟨gs, m * 4 + 3, none⟩ = some (.string a.id)))
                  (first | (with_reducible exact HC _ hB))
                  (first | (go_at_call 64; with_reducible refine (rprec_c x a _).mono ?_; rintro e w3 ⟨rfl, hb⟩; rw [DC.out]; have HI3 := Lib.hid ((HI.out.below (Below.refl _ _).drew).below hb); replace hB := hB.trans (hb.mono hB.size); clear hb))
                all_goals (go_wp2_with fail)
                all_goals go_meet
                all_goals exact ⟨rfl, HI3⟩
              case rest =>
              obtain ⟨rfl, HI⟩ := hcut
              clear s0 s1 s2 s3 sl l0 l1 l2 l3 ll
              obtain ⟨⟨s0, s1, s2, s3⟩, sl⟩ := cand_cells (HS.out.own.below HI.out.bel) HA.out
              go_wp2_with (at_builtin; refine own_app (w0 := wo) 50 46 rfl (.tmp 40) (.tmp 45) rfl Tryz.underlying50 info46 rfl (by decide) (by decide) u rfl (Cand.row a) rfl rfl (cand_one1 _) HI.out.own HI.out.bel HI.out.bel.size K1.out ?_; intro u2 w3 ho hb hg _; replace HI := Lib.hid (SoB.mk hb (so_snoc ho)); clear ho hb hg)
              exact ⟨⟨m + 1, u2, by omega, by go_num, by rw [E.out.2], rfl, by rw [E.out.1]; exact HI⟩, by simp [intOf]; omega⟩
        · obtain rfl : k = m := by omega
          have TS := Lib.hid (show S.take k = S from List.take_of_length_le (by rw [LN.out]; exact Nat.le_refl _))
          rw [TS.out] at HI K1 ⊢
          cases hany : anyP x S with
          | true =>
            have E := Lib.hid (show nxtP x S = insP x S from if_pos hany)
            go_wp2_with fail
            exact ⟨⟨k + 1, u, by omega, by go_num, rfl, by rw [NX.out, ← E.out]; exact Lib.hid ⟨below_then HS.out.bel HS.out.bel.size HI.out.bel, HI.out.own.less HS.out.bel.size⟩⟩, by simp [intOf]; omega⟩
          | false =>
            have E := Lib.hid (show nxtP x S ++ [x] = insP x S by unfold nxtP; rw [if_neg (by rw [hany]; decide), insP_not hany])
            go_wp2_with (at_builtin; refine own_app (w0 := wo) 50 46 rfl (.tmp 49) (.tmp 54) rfl Tryz.underlying50 info46 rfl (by decide) (by decide) u rfl (Cand.row x) rfl rfl (cand_one1 _) HI.out.own HI.out.bel HI.out.bel.size K1.out ?_; intro u2 w3 ho hb hg _; replace HI := Lib.hid (SoB.mk hb (so_snoc ho)); clear ho hb hg)
            exact ⟨⟨k + 1, u2, by omega, by go_num, rfl, by rw [NX.out, ← E.out]; exact Lib.hid ⟨below_then HS.out.bel HS.out.bel.size HI.out.bel, HI.out.own.less HS.out.bel.size⟩⟩, by simp [intOf]; omega⟩
    · obtain rfl : n = k := by omega
      have TK := Lib.hid (show srtC (L.take n) = vSort L by rw [List.take_of_length_le (by have := hn.out; omega)]; exact srtC_eq ht.out)
      go_wp2_with fail
      go_ret
      exact ⟨v, rfl, by have := HS.out.own; rw [TK.out] at this; exact this, HS.out.bel⟩
end Go.Proofs.YtdgaflcnigljlaaGreatDoor
