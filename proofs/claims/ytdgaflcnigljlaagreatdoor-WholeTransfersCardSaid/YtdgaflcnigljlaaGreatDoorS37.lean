/-
  Contracts and plain facts for the laws on the whole program: the parts below say each what they are. No further condition.
-/
import Derived.Test.YtdgaflcnigljlaaGreatDoorS25
set_option linter.unusedSimpArgs false
/-
  Two years of one length whose Easters fall on one date: their calendars differ by whole weeks alone. Plain law. No further condition.
-/
namespace Go.Proofs.YtdgaflcnigljlaaGreatDoor
open Go.RowKit
set_option linter.unusedVariables false
theorem fm_congr {α β : Type} {f g : α → Option β} {l : List α} (h : ∀ x ∈ l, f x = g x) : l.filterMap f = l.filterMap g := by
  induction l with
  | nil => rfl
  | cons a l ih => rw [List.filterMap_cons, List.filterMap_cons, h a (.head _), ih (fun x hx => h x (.tail _ hx))]
theorem find_le {C : Cat} {y d : Int} (h : vFirst y ≤ d) : (vFind C y d).1 ≤ d := by
  unfold vFind
  split
  · rename_i s hs
    have := (best_spec (filter_ord (stL_ord C y) _) hs).1
    exact of_decide_eq_true (List.mem_filter.1 this).2
  · simp only []; omega
/-- The second year lies D days behind the first, whole weeks; it has the same length, and Easter likewise. -/
structure Alk (y z D : Int) : Prop where
  lp : vLeap z = vLeap y
  fi : vFirst z = vFirst y + D
  ea : vEas z = vEas y + D
  wk : D % 7 = 0
theorem alk_of {y z : Int} (hl : vLeap z = vLeap y) (he : vEas y - vFirst y = vEas z - vFirst z) : Alk y z (vFirst z - vFirst y) := by
  refine ⟨hl, by omega, by omega, ?_⟩
  have a : vEas y % 7 = 0 := by unfold vEas; omega
  have b : vEas z % 7 = 0 := by unfold vEas; omega
  omega
section
variable {y z D : Int} {C : Cat}
theorem Alk.to (h : Alk y z D) (m d : Int) : vTo z m d = vTo y m d + D := by unfold vTo; rw [h.lp, h.fi]; omega
theorem mod_shift {D : Int} (h : D % 7 = 0) (d k : Int) : (k - (d + D)) % 7 = (k - d) % 7 ∧ (d + D - k) % 7 = (d - k) % 7 ∧ (d + D) % 7 = d % 7 := by omega
theorem Alk.anc (h : Alk y z D) {a : AncT} (ok : a.Ok) (y1 : 1583 ≤ y) (y2 : y ≤ 1000000000) (z1 : 1583 ≤ z) (z2 : z ≤ 1000000000) : a.day z = a.day y + D := by
  obtain ⟨b1, b2⟩ := vFirst_bd (y := y) (by omega) (by omega)
  obtain ⟨b3, b4⟩ := vFirst_bd (y := z) (by omega) (by omega)
  have s := vFirst_succ y
  have s2 := vFirst_succ z
  have l1 := lp01 (vLeap y)
  have l2 := lp01 (vLeap z)
  obtain ⟨b5, b6⟩ := vFirst_bd (y := y + 1) (by omega) (by omega)
  obtain ⟨b7, b8⟩ := vFirst_bd (y := z + 1) (by omega) (by omega)
  unfold AncT.Ok AncOk at ok
  unfold AncT.day vAnc
  rcases ok with ⟨k, d1, d2, _⟩ | ⟨k, _, _, _, _, o1, o2⟩ | ⟨k, _, d1, d2, w1, w2, hc⟩
  · rw [k, if_neg (by decide), if_neg (by decide), if_neg (by decide), if_neg (by decide)]
    exact h.to _ _
  · rw [k, if_pos rfl, if_pos rfl, h.ea]; omega
  · rw [k, if_neg (by decide), if_pos rfl, if_neg (by decide), if_pos rfl]
    obtain ⟨e, f1, f2, f3, f4⟩ := fix_bd (y := y) d1 d2
    obtain ⟨e', f1', f2', f3', f4'⟩ := fix_bd (y := z) d1 d2
    have he := nth_err (n := vTo y a.m a.d) (wd := a.wd) (c := a.c) w1 w2 (by omega) (by omega) (by omega) (by omega) (by omega)
    have he' := nth_err (n := vTo z a.m a.d) (wd := a.wd) (c := a.c) w1 w2 (by omega) (by omega) (by omega) (by omega) (by omega)
    have hn : ¬ (a.wd < 0 ∨ 6 < a.wd ∨ a.c = 0 ∨ a.c < -1000 ∨ 1000 < a.c) := by omega
    rw [vNth_err hn] at he he'
    obtain ⟨q1, q2, _⟩ := mod_shift h.wk (vTo y a.m a.d) a.wd
    have ht := h.to a.m a.d
    by_cases c0 : 0 < a.c
    · rw [vNth_pos hn he c0, vNth_pos hn he' c0]
      unfold vAfter
      rw [if_pos he, if_pos he', ht, q1]; omega
    · rw [vNth_neg hn he c0, vNth_neg hn he' c0]
      unfold vBefore
      rw [if_pos he, if_pos he', ht, q2]; omega
def sh (D : Int) (p : Int × Int) : Int × Int := (p.1 + D, p.2)
theorem best_sh (D : Int) (l : List (Int × Int)) : best (l.map (sh D)) = (best l).map (sh D) := by
  induction l with
  | nil => rfl
  | cons p l ih =>
    simp only [List.map_cons, best, ih]
    cases best l with
    | none => rfl
    | some q =>
      simp only [Option.map_some]
      by_cases h : q.1 < p.1
      · rw [if_pos h, if_pos (by show q.1 + D < p.1 + D; omega)]; rfl
      · rw [if_neg h, if_neg (by show ¬ q.1 + D < p.1 + D; omega)]; rfl
/-- Two years with whatever belongs to a law on both. -/
structure Alkc (C : Cat) (y z D : Int) : Prop where
  a : Alk y z D
  g : C.Good
  y1 : 1583 ≤ y
  y2 : y ≤ 1000000000
  z1 : 1583 ≤ z
  z2 : z ≤ 1000000000
theorem Alkc.day (h : Alkc C y z D) {a : AncT} (ok : a.Ok) : a.day z = a.day y + D := h.a.anc ok h.y1 h.y2 h.z1 h.z2
theorem Alkc.stL (h : Alkc C y z D) : stL C z = (stL C y).map (sh D) := by
  have e : vSt C z = (vSt C y).map (fun x => x + D) := by
    unfold vSt
    rw [List.map_map]
    exact List.map_congr_left fun s hs => h.day (h.g.sea s hs).st
  unfold Go.Proofs.YtdgaflcnigljlaaGreatDoor.stL
  rw [e, List.zipIdx_map, List.map_map, List.map_map]
  rfl
theorem Alkc.pick (h : Alkc C y z D) (d : Int) : vPick C z (d + D) = (vPick C y d).map (sh D) := by
  unfold vPick
  rw [h.stL, List.filter_map, best_sh]
  congr 3
  funext p
  show decide (p.1 + D ≤ d + D) = decide (p.1 ≤ d)
  by_cases hp : p.1 ≤ d
  · rw [decide_eq_true hp, decide_eq_true (by omega)]
  · rw [decide_eq_false hp, decide_eq_false (by omega)]
theorem Alkc.find (h : Alkc C y z D) (d : Int) : vFind C z (d + D) = sh D (vFind C y d) := by
  unfold vFind
  rw [h.pick]
  cases vPick C y d with
  | some s => rfl
  | none =>
    simp only [Option.map_none]
    rw [h.stL, best_sh, h.a.fi]
    unfold sh
    cases best (Go.Proofs.YtdgaflcnigljlaaGreatDoor.stL C y) with
    | none => simp only [Option.map_none, Option.getD_none]; congr 1; omega
    | some s => simp only [Option.map_some, Option.getD_some]; congr 1; omega
theorem Alkc.sea (h : Alkc C y z D) (d : Int) : vSea C z (d + D) = vSea C y d := by unfold vSea; rw [h.find]; rfl
theorem Alkc.temp (h : Alkc C y z D) (d : Int) : vTemp C z (d + D) = vTemp C y d := by
  unfold vTemp
  rw [h.sea, h.find, (mod_shift h.a.wk d 0).2.2]; rfl
theorem Alkc.prop (h : Alkc C y z D) (d : Int) : vPropL C z C.feas.length (d + D) = vPropL C y C.feas.length d := by
  unfold vPropL
  refine fm_congr fun p hp => ?_
  have hm : p.1 ∈ C.feas := by
    have := List.fst_mem_of_mem_zipIdx hp
    rwa [List.take_length] at this
  unfold feaC
  rw [h.day (h.g.fea _ hm).at_]
  by_cases e : p.1.at_.day y = d
  · rw [if_pos e, if_pos (by omega)]
  · rw [if_neg e, if_neg (by omega)]
theorem Alkc.line (h : Alkc C y z D) (i : Nat) : vLine C z i = vLine C y i := by
  unfold vLine vCands
  rw [show vFirst z + (i : Int) = vFirst y + i + D by have := h.a.fi; omega, h.temp, h.prop]
theorem Alkc.rz (h : Alkc C y z D) (i : Nat) : vRz C z i = vRz C y i := by unfold vRz; rw [h.line]
theorem Alkc.days (h : Alkc C y z D) : vDays z = vDays y := by unfold vDays; rw [h.a.lp]
theorem Alkc.moves (h : Alkc C y z D) : vMoves C z = vMoves C y := by
  unfold vMoves vFreeL vImpL
  rw [h.days]
  simp only [h.rz]
theorem Alkc.week (h : Alkc C y z D) (d : Int) (d1 : vFirst y ≤ d) (d2 : d < vFirst (y + 1)) : vWeek C z (d + D) = vWeek C y d := by
  unfold vWeek
  rw [h.find, h.a.fi]
  obtain ⟨f1, f2⟩ := find_in (d := d) h.g h.y1 h.y2
  obtain ⟨b1, b2⟩ := vFirst_bd (y := y) (by have := h.y1; omega) (by have := h.y2; omega)
  obtain ⟨b3, b4⟩ := vFirst_bd (y := z) (by have := h.z1; omega) (by have := h.z2; omega)
  have fi := h.a.fi
  have q : max (sh D (vFind C y d)).1 (vFirst y + D) = max (vFind C y d).1 (vFirst y) + D := by
    show max ((vFind C y d).1 + D) (vFirst y + D) = _
    omega
  simp only []
  rw [q]
  have fl := find_le (C := C) (y := y) (d := d) d1
  obtain ⟨b5, b6⟩ := vFirst_bd (y := y + 1) (by have := h.y1; omega) (by have := h.y2; omega)
  have m0 : max (vFind C y d).1 (vFirst y) ≤ 365242500001 := by omega
  have m1 : vFirst y ≤ max (vFind C y d).1 (vFirst y) := by omega
  generalize max (vFind C y d).1 (vFirst y) = f at *
  have e : vAfter (f + D) 0 = vAfter f 0 + D := by
    obtain ⟨g1, g2⟩ := vAfter0 (n := f + D) (by omega) (by omega)
    obtain ⟨g3, g4⟩ := vAfter0 (n := f) (by omega) (by omega)
    rw [g1, g3, (mod_shift h.a.wk f 0).1]
    omega
  rw [e]
  by_cases c : d < vAfter f 0
  · rw [if_pos c, if_pos (by omega)]
  · rw [if_neg c, if_neg (by omega)]; congr 2; omega
/-- The month and the day of a date, where the years have one length. -/
theorem Alk.date (h : Alk y z D) (k : Int) (k0 : 0 ≤ k) (k1 : k < vDays y) (hy : vDays z = vDays y) : vYear (vFirst y + k) = y ∧ vYear (vFirst z + k) = z ∧ mMon (vFirst z + k) = mMon (vFirst y + k) ∧ mDay (vFirst z + k) = mDay (vFirst y + k) := by
  have a := vDays_next y
  have b := vDays_next z
  have e1 : vYear (vFirst y + k) = y := vYear_uniq (by omega) (by omega)
  have e2 : vYear (vFirst z + k) = z := vYear_uniq (by omega) (by omega)
  have d1 : vDoy (vFirst y + k) = k := by unfold vDoy; rw [e1]; omega
  have d2 : vDoy (vFirst z + k) = k := by unfold vDoy; rw [e2]; omega
  have m : mMon (vFirst z + k) = mMon (vFirst y + k) := by unfold mMon; rw [d1, d2, e1, e2, h.lp]
  refine ⟨e1, e2, m, ?_⟩
  unfold mDay
  rw [m, d1, d2, e1, e2, h.lp]
/-- The entries of both years. -/
theorem Alkc.en (h : Alkc C y z D) {l : List Mv} (hl : vMoves C y = some l) (i : Nat) : vEnI C z l i = { vEnI C y l i with fy := if (vTake l i).isSome = true then z else 0 } ∧ ((vTake l i).isSome = false → (vEnI C y l i).fy = 0 ∧ (vEnI C y l i).fm = 0 ∧ (vEnI C y l i).fd = 0) ∧ ((vTake l i).isSome = true → (vEnI C y l i).fy = y) := by
  cases e : vTake l i with
  | none =>
    refine ⟨?_, fun _ => ?_, fun h => (by cases h)⟩
    · rw [en_none (by rw [e]; rfl), en_none (by rw [e]; rfl), h.rz]; rfl
    · rw [en_none (by rw [e]; rfl)]; exact ⟨rfl, rfl, rfl⟩
  | some m =>
    have hm := (moves_ok h.g hl).2 m (List.mem_of_find?_eq_some e)
    obtain ⟨d1, d2, d3, d4⟩ := h.a.date m.src hm.2.2.1 hm.2.2.2 h.days
    refine ⟨?_, fun h => (by cases h), fun _ => ?_⟩
    · unfold vEnI
      rw [e]
      simp only []
      rw [h.rz, d2, d3, d4]; rfl
    · unfold vEnI
      rw [e]
      exact d1
end
end Go.Proofs.YtdgaflcnigljlaaGreatDoor
