/-
  Contracts and plain facts for the laws on the whole program: the parts below say each what they are. No further condition.
-/
import Derived.Test.YtdgaflcnigljlaaGreatDoorS04
import Derived.Test.YtdgaflcnigljlaaGreatDoorS05
import Derived.MapKept
import Derived.Maps.OwnOps
import Derived.Maps.Own
/-
  Laws on maps that a call makes, whatever their elements: a map's block by the function from keys to elements that it stands for. No further condition.
-/
namespace Go.Proofs.YtdgaflcnigljlaaGreatDoor
open Go.RowKit Go.MapKept Go.Proofs.YtdgaflcnigljlaaGreatDoorW.PrintWords
set_option linter.unusedVariables false
set_option linter.unusedSectionVars false

/-- How the keys of a type are spelt. -/
structure KeyLike (P : Program) (kt : TypeId) (d : TypeDesc) {κ : Type} (inj : κ → Value) : Prop where
  desc : P.underlying kt = some d
  key : ∀ a, IsKey d (inj a)
  inj : ∀ a b, inj a = inj b → a = b
theorem keyLike_int {P : Program} {kt : TypeId} (h : P.underlying kt = some (.int .i64)) : KeyLike P kt (.int .i64) (fun a : Int => Value.int .i64 a) := ⟨h, fun _ => rfl, fun a b e => by injection e⟩
theorem keyLike_string {P : Program} {kt : TypeId} (h : P.underlying kt = some .string) : KeyLike P kt .string (fun a : ByteArray => Value.string a) := ⟨h, fun _ => trivial, fun a b e => by injection e⟩

section
variable {κ : Type} [DecidableEq κ]
def mlook : List (κ × Value) → κ → Option Value
  | [], _ => none
  | p :: l, k => if p.1 = k then some p.2 else mlook l k
def mput : List (κ × Value) → κ → Value → List (κ × Value)
  | [], k, v => [(k, v)]
  | p :: l, k, v => if p.1 = k then (p.1, v) :: l else p :: mput l k v
theorem mlook_mput (l : List (κ × Value)) (k : κ) (v : Value) (j : κ) : mlook (mput l k v) j = if j = k then some v else mlook l j := by
  induction l with
  | nil => simp only [mput, mlook]; by_cases h : k = j <;> simp [h, eq_comm]
  | cons p l ih =>
    simp only [mput]
    by_cases h : p.1 = k
    · rw [if_pos h]; simp only [mlook]; by_cases e : p.1 = j
      · rw [if_pos e, if_pos (e.symm.trans h)]
      · rw [if_neg e, if_neg e, if_neg (fun e' => e (h.trans e'.symm))]
    · rw [if_neg h]; simp only [mlook]; by_cases e : p.1 = j
      · rw [if_pos e, if_pos e, if_neg (fun e' => h (e.trans e'))]
      · rw [if_neg e, if_neg e, ih]
/-- The entries of a map, without their stamps. -/
def Entries (inj : κ → Value) (es : List MapEntry) (l : List (κ × Value)) : Prop := es.map (fun e => (e.key, e.val)) = l.map (fun p => (inj p.1, p.2))
/-- Block g is a map that stands for f. -/
def MapIs (inj : κ → Value) (w : World) (g : Nat) (f : κ → Option Value) : Prop := ∃ es clock l, w.heap[g]? = some (.map es clock) ∧ Entries inj es.toList l ∧ ∀ k, mlook l k = f k

variable {P : Program} {kt et T : TypeId} {d : TypeDesc} {inj : κ → Value}
theorem entries_keys (hK : KeyLike P kt d inj) {es : List MapEntry} {l : List (κ × Value)} (h : Entries inj es l) : ∀ x ∈ es, IsKey d x.key := by
  induction es generalizing l with
  | nil => intro x hx; cases hx
  | cons e es ih =>
    cases l with
    | nil => cases h
    | cons p l =>
      simp only [Entries, List.map_cons, List.cons.injEq, Prod.mk.injEq] at h
      intro x hx
      cases hx with
      | head => rw [h.1.1]; exact hK.key _
      | tail _ hx => exact ih h.2 x hx
theorem find_entries (hK : KeyLike P kt d inj) {es : List MapEntry} {l : List (κ × Value)} (h : Entries inj es l) (k : κ) (i : Nat) :
    (Instr.findNow d (inj k) es i = some none ∧ mlook l k = none ∧ ∀ v n, Entries inj (es ++ [{ key := inj k, val := v, born := n }]) (mput l k v)) ∨
    ∃ j e, Instr.findNow d (inj k) es i = some (some (i + j, e.val)) ∧ es[j]? = some e ∧ e.key = inj k ∧ mlook l k = some e.val ∧ ∀ v, Entries inj (es.modify j fun e => { e with key := inj k, val := v }) (mput l k v) := by
  induction es generalizing l i with
  | nil =>
    cases l with
    | nil => exact .inl ⟨rfl, rfl, fun v n => rfl⟩
    | cons p l => cases h
  | cons e es ih =>
    cases l with
    | nil => cases h
    | cons p l =>
      have h0 := h
      simp only [Entries, List.map_cons, List.cons.injEq, Prod.mk.injEq] at h
      obtain ⟨⟨h1, h2⟩, h3⟩ := h
      obtain ⟨r, hr, hiff⟩ := sameNow_of_keys (hK.key k) (entries_keys hK h0 e (.head _))
      cases r with
      | true =>
        have e1 : e.key = inj k := (hiff.1 rfl).symm
        have e2 : p.1 = k := hK.inj _ _ (h1.symm.trans e1)
        refine .inr ⟨0, e, by simp only [Instr.findNow, hr, Nat.add_zero], rfl, e1, by simp only [mlook]; rw [if_pos e2, h2], fun v => ?_⟩
        simp only [mput]; rw [if_pos e2]
        simp only [Entries, List.modify_zero_cons, List.map_cons, e2]
        rw [show es.map (fun e => (e.key, e.val)) = _ from h3]
      | false =>
        have e1 : ¬ p.1 = k := fun e2 => by
          have := hiff.2 (by rw [h1, e2])
          cases this
        rcases ih h3 (i + 1) with ⟨a1, a2, a3⟩ | ⟨j, e', a1, a2, a3, a4, a5⟩
        · refine .inl ⟨by simp only [Instr.findNow, hr]; exact a1, by simp only [mlook]; rw [if_neg e1]; exact a2, fun v n => ?_⟩
          simp only [mput]; rw [if_neg e1]
          have := a3 v n
          simp only [Entries, List.cons_append, List.map_cons] at this ⊢
          rw [this, h1, h2]
        · refine .inr ⟨j + 1, e', by simp only [Instr.findNow, hr]; rw [a1]; congr 3; omega, by simpa using a2, a3, by simp only [mlook]; rw [if_neg e1]; exact a4, fun v => ?_⟩
          simp only [mput]; rw [if_neg e1]
          have := a5 v
          simp only [Entries, List.modify_succ_cons, List.map_cons] at this ⊢
          rw [this, h1, h2]

theorem MapIs.made (w : World) : MapIs inj (w.alloc (.map #[] 0)) w.heap.size (fun _ => none) := ⟨#[], 0, [], heap_alloc_new w _, rfl, fun _ => rfl⟩
theorem MapIs.below {w w1 : World} {g : Nat} {f : κ → Option Value} (h : MapIs inj w g f) (hb : Below w.heap.size w w1) : MapIs inj w1 g f := by
  obtain ⟨es, c, l, a, b⟩ := h
  exact ⟨es, c, l, blk_below a hb, b⟩
theorem MapIs.grown {w w1 : World} {g : Nat} {row : Option Nat} {f : κ → Option Value} (h : MapIs inj w g f) (hb : w.grownBy w1 row) (hne : some g ≠ row) : MapIs inj w1 g f := by
  obtain ⟨es, c, l, a, b⟩ := h
  exact ⟨es, c, l, blk_grown a hb hne, b⟩
theorem MapIs.lt {w : World} {g : Nat} {f : κ → Option Value} (h : MapIs inj w g f) : g < w.heap.size := by
  obtain ⟨es, c, l, a, b⟩ := h
  exact blk_lt a
theorem MapIs.look (hK : KeyLike P kt d inj) (hT : P.underlying T = some (.map kt et)) {w : World} {g : Nat} {f : κ → Option Value} (h : MapIs inj w g f) (k : κ) {z : Value} (hz : ∀ w, (zeroValue et).run P w = .ok z w) (ok : Bool) :
    (Instr.lookup T (.map (some g)) (inj k) ok).run P w = .ok (if ok then .tuple #[(f k).getD z, .bool (f k).isSome] else (f k).getD z) w := by
  obtain ⟨es, c, l, a, b, hf⟩ := h
  rw [← hf k]
  have e := b
  rcases find_entries hK b k 0 with ⟨a1, a2, _⟩ | ⟨j, e', a1, a2, a3, a4, _⟩
  · simp [Instr.lookup, run_underlying hT, MapKept.run_getObj_map a, MapKept.run_checkKey hK.desc (hK.key k), MapKept.run_findKey hK.desc a1, hz, Result.andThen, a2]
  · simp [Instr.lookup, run_underlying hT, MapKept.run_getObj_map a, MapKept.run_checkKey hK.desc (hK.key k), MapKept.run_findKey hK.desc a1, Result.andThen, a4]
theorem grown_setObj {w : World} {r : Nat} {o o' : Obj} (hb : w.heap[r]? = some o) : w.grownBy { w with heap := w.heap.setIfInBounds r o' } (some r) :=
  ⟨rfl, rfl, rfl, by simp, fun k hk hne => (MapKept.heap_set hb).2 k (fun e => hne (by rw [e]))⟩
theorem MapIs.upd (hK : KeyLike P kt d inj) (hT : P.underlying T = some (.map kt et)) {w : World} {g : Nat} {f : κ → Option Value} (h : MapIs inj w g f) (k : κ) (v : Value) :
    ∃ w', (Instr.mapUpdate T (.map (some g)) (inj k) v).run P w = .ok () w' ∧ MapIs inj w' g (fun j => if j = k then some v else f j) ∧ w.grownBy w' (some g) ∧ w'.heap.size = w.heap.size := by
  obtain ⟨es, c, l, a, b, hf⟩ := h
  rcases find_entries hK b k 0 with ⟨a1, a2, a3⟩ | ⟨j, e', a1, a2, a3, a4, a5⟩
  · refine ⟨_, by simp [Instr.mapUpdate, run_underlying hT, MapKept.run_getObj_map a, MapKept.run_checkKey hK.desc (hK.key k), MapKept.run_findKey hK.desc a1, MapKept.run_setObj_map _ a, Result.andThen]; rfl, ?_, grown_setObj a, by simp⟩
    refine ⟨_, _, mput l k v, (MapKept.heap_set a).1, by simpa using a3 v c, fun j => ?_⟩
    rw [mlook_mput, hf]
  · have hj : es[j]? = some e' := by simpa using a2
    refine ⟨_, by simp [Instr.mapUpdate, run_underlying hT, MapKept.run_getObj_map a, MapKept.run_checkKey hK.desc (hK.key k), MapKept.run_findKey hK.desc a1, hj, a3, MapKept.run_keyThatStays (hK.key k), MapKept.run_setObj_map _ a, Result.andThen]; rfl, ?_, grown_setObj a, by simp⟩
    refine ⟨_, _, mput l k v, (MapKept.heap_set a).1, by simpa using a5 v, fun j => ?_⟩
    rw [mlook_mput, hf]

theorem wpl_mapUpdate {w : World} {ops : Array Oper} {rest : List Oper} {o : Oper} {a : Act} {Q : Exit → Act → World → Prop} {m x v : Operand} (t : TypeId) (hop : o.op = .mapUpdate t m x v) (hg : o.guard = none)
    (hK : KeyLike P kt d inj) (hT : P.underlying t = some (.map kt et)) {g : Nat} {f : κ → Option Value} (hm : a.eval m = .map (some g)) (h : MapIs inj w g f) (k : κ) (val : Value) (hx : a.eval x = inj k) (hv : a.eval v = val)
    (hC : ∀ w', MapIs inj w' g (fun j => if j = k then some val else f j) → w.grownBy w' (some g) → w'.heap.size = w.heap.size → wpList P ops Q rest (a.put o.dst undef) w') : wpList P ops Q (o :: rest) a w := by
  refine wpList_plain hg fun K' hK' => ?_
  obtain ⟨w', hrun, r1, r2, r3⟩ := h.upd hK hT k val
  unfold Oper.wp
  simp [execOp, hop, hm, hx, hv, hrun, Result.andThen]
  exact hK' _ _ (hC w' r1 r2 r3)
theorem wpl_insert {w : World} {ops : Array Oper} {rest : List Oper} {o : Oper} {a : Act} {Q : Exit → Act → World → Prop} {m x v : Operand} (t : TypeId) (hop : o.op = .insert t m x v) (hg : o.guard = none)
    (hK : KeyLike P kt d inj) (hT : P.underlying t = some (.map kt et)) {g : Nat} {f : κ → Option Value} (hm : a.eval m = .map (some g)) (h : MapIs inj w g f) (k : κ) (val : Value) (hx : a.eval x = inj k) (hv : a.eval v = val)
    (hC : ∀ w', MapIs inj w' g (fun j => if j = k then some val else f j) → w.grownBy w' (some g) → w'.heap.size = w.heap.size → wpList P ops Q rest (a.put o.dst undef) w') : wpList P ops Q (o :: rest) a w := by
  refine wpList_plain hg fun K' hK' => ?_
  obtain ⟨w', hrun, r1, r2, r3⟩ := h.upd hK hT k val
  unfold Oper.wp
  simp [execOp, hop, hm, hx, hv, hrun, Result.andThen]
  exact hK' _ _ (hC w' r1 r2 r3)
theorem wpl_lookup {w : World} {ops : Array Oper} {rest : List Oper} {o : Oper} {a : Act} {Q : Exit → Act → World → Prop} {m x : Operand} {ok : Bool} (t : TypeId) (hop : o.op = .lookup t m x ok) (hg : o.guard = none)
    (hK : KeyLike P kt d inj) (hT : P.underlying t = some (.map kt et)) {g : Nat} {f : κ → Option Value} (hm : a.eval m = .map (some g)) (h : MapIs inj w g f) (k : κ) (hx : a.eval x = inj k) {z : Value} (hz : ∀ w, (zeroValue et).run P w = .ok z w)
    (r : Value) (hr : r = if ok then .tuple #[(f k).getD z, .bool (f k).isSome] else (f k).getD z) (hC : wpList P ops Q rest (a.put o.dst r) w) : wpList P ops Q (o :: rest) a w := by
  refine wpList_plain hg fun K' hK' => ?_
  have hrun := h.look hK hT k hz ok
  rw [← hr] at hrun
  unfold Oper.wp
  simp [execOp, hop, hm, hx, hrun, Result.andThen]
  exact hK' _ _ hC
end
end Go.Proofs.YtdgaflcnigljlaaGreatDoor
/-
  Contracts of the epact's label, of dates by their day in package civil, for the Gregorian calendar. Years from 1583 to 1000000000.
-/
namespace Go.Proofs.YtdgaflcnigljlaaGreatDoor
open Go.RowKit Go.Proofs.YtdgaflcnigljlaaGreatDoorW.PrintWords
set_option linter.unusedVariables false
theorem KI : KeyLike Tryz.prog 3 (.int .i64) (fun a : Int => Value.int .i64 a) := keyLike_int Tryz.underlying3
theorem closF {P : Program} : ∀ (fn : Fn) (first cap : Array Value) (w : World), (Instr.makeFunc fn first cap).run P w = .ok (.func fn first cap) w := fun _ _ _ _ => rfl
def gEp (y : Int) : Int := 11 * (y % 19 + 1) + 20 + ((8 * (y / 100 + 1) + 5) / 25 - 5) - (3 * (y / 100 + 1) / 4 - 12)
def vEp (y : Int) : Int := (gEp y - 1) % 30 + 1
def vLab (y : Int) : Int := if vEp y = 25 ∧ 11 < y % 19 + 1 then 31 else vEp y
theorem vEp_in (y : Int) : 1 ≤ vEp y ∧ vEp y ≤ 30 := by unfold vEp; omega
theorem vLab_in (y : Int) : 1 ≤ vLab y ∧ vLab y ≤ 31 := by have := vEp_in y; unfold vLab; split <;> omega
set_option maxHeartbeats 400000 in
theorem golden_c (y : Int) (w : World) (h1 : 1 ≤ y) (h2 : y ≤ 1000000000) : Calls Tryz.prog 248 #[.int .i64 y] w fun e w' => e = .returned (.tuple #[.int .i64 (y % 19 + 1), .int .i64 0]) ∧ w = w' := by
  have hmf := @closF Tryz.prog
  go_enter Tryz.func248, Tryz.ntmps248
  go_wp2
  go_ret2
  exact ⟨rfl, rfl⟩
theorem rem30 (n : Int) : (n - 1).tmod 30 % 30 + 1 = (n - 1) % 30 + 1 := by
  have e1 := @Int.tmod_eq_emod (n - 1) 30
  have e2 : (Int.natAbs 30 : Int) = 30 := rfl
  rw [e1]; split
  · simp
  · rw [e2]; omega
set_option maxHeartbeats 400000 in
theorem epGreg_c (y : Int) (w : World) (h1 : 1583 ≤ y) (h2 : y ≤ 1000000000) : Calls Tryz.prog 264 #[.int .i64 y] w fun e w' => e = .returned (.tuple #[.int .i64 (gEp y), .int .i64 0]) ∧ w = w' := by
  have hmf := @closF Tryz.prog
  have a1 : 0 ≤ y / 100 := by omega
  have a2 : y / 100 ≤ 10000000 := by omega
  have a3 : 0 ≤ (8 * (y / 100 + 1) + 5) / 25 := by omega
  have a4 : (8 * (y / 100 + 1) + 5) / 25 ≤ 10000000 := by omega
  have a5 : 0 ≤ 3 * (y / 100 + 1) / 4 := by omega
  have a6 : 3 * (y / 100 + 1) / 4 ≤ 10000000 := by omega
  go_enter Tryz.func264, Tryz.ntmps264
  go_wp2
  go_ret2
  exact ⟨ret_ii (by unfold gEp; first | rfl | omega) rfl, rfl⟩
theorem gEp_in {y : Int} (h1 : 1583 ≤ y) (h2 : y ≤ 1000000000) : -20000000 ≤ gEp y ∧ gEp y ≤ 20000000 := by unfold gEp; omega
set_option maxRecDepth 20000 in
set_option maxHeartbeats 400000 in
theorem epOf_c (y : Int) (w : World) (h1 : 1583 ≤ y) (h2 : y ≤ 1000000000) : Calls Tryz.prog 247 #[.int .i64 2, .int .i64 y] w fun e w' => e = .returned (.tuple #[.int .i64 (vEp y), .int .i64 0]) ∧ Below w.heap.size w w' := by
  have hmf := @closF Tryz.prog
  have hmm := @run_makeMap Tryz.prog
  have HM := MapIs.made (inj := fun a : Int => Value.int .i64 a) w
  have HB := (Below.refl w.heap.size w).alloc (Nat.le_refl _) (.map #[] 0)
  have zf : ∀ w, (zeroValue 120).run Tryz.prog w = .ok .nilFunc w := fun _ => by kernel_rfl
  obtain ⟨g1, g2⟩ := gEp_in h1 h2
  have R := Lib.hid (show (gEp y - 1).tmod 30 % 30 + 1 = vEp y from rem30 (gEp y))
  have r1 : -30 < (gEp y - 1).tmod 30 := Int.lt_tmod_of_pos _ (by omega)
  have r2 : (gEp y - 1).tmod 30 < 30 := Int.tmod_lt_of_pos _ (by omega)
  go_enter Tryz.func247, Tryz.ntmps247
  go_wp2_with (first | (go_at_call 256; go_in) | (with_reducible refine wpl_insert 311 rfl rfl KI Tryz.underlying311 rfl HM _ _ rfl rfl ?_; clear HM; intro w1 HM hg1 hs1; replace HB := HB.grown hg1 HB.size (fun k e => by cases e; exact Nat.le_refl _); clear hg1 hs1) | (with_reducible refine wpl_lookup 311 rfl rfl KI Tryz.underlying311 rfl HM _ rfl zf (.tuple #[.func (.func 264) #[] #[], .bool true]) rfl ?_) | (go_at_call 264; with_reducible refine (epGreg_c _ _ h1 h2).mono ?_; rintro e w' ⟨rfl, rfl⟩))
  go_ret2
  exact ⟨ret_ii R.out rfl, HB⟩
set_option maxHeartbeats 400000 in
theorem epLabel_c (y : Int) (w : World) (h1 : 1583 ≤ y) (h2 : y ≤ 1000000000) : Calls Tryz.prog 233 #[.int .i64 2, .int .i64 y] w fun e w' => e = .returned (.tuple #[.int .i64 (vLab y), .int .i64 0]) ∧ Below w.heap.size w w' := by
  obtain ⟨e1, e2⟩ := vEp_in y
  by_cases a : vEp y = 25
  · have b : (vEp y == 25) = true := by simpa using a
    by_cases c : 11 < y % 19 + 1
    · have R := Lib.hid (show vLab y = 31 by unfold vLab; rw [if_pos ⟨a, c⟩])
      go_enter Tryz.func233, Tryz.ntmps233
      go_wp2_with (first | (go_at_call 247; with_reducible refine (epOf_c _ _ h1 h2).mono ?_; rintro e w' ⟨rfl, hw⟩) | (go_at_call 248; with_reducible refine (golden_c _ _ (by omega) h2).mono ?_; rintro e w' ⟨rfl, rfl⟩))
      go_ret2
      exact ⟨ret_ii R.out.symm rfl, hw⟩
    · have R := Lib.hid (show vLab y = 25 by unfold vLab; rw [if_neg (fun h => c h.2), a])
      go_enter Tryz.func233, Tryz.ntmps233
      go_wp2_with (first | (go_at_call 247; with_reducible refine (epOf_c _ _ h1 h2).mono ?_; rintro e w' ⟨rfl, hw⟩) | (go_at_call 248; with_reducible refine (golden_c _ _ (by omega) h2).mono ?_; rintro e w' ⟨rfl, rfl⟩))
      go_ret2
      exact ⟨ret_ii R.out.symm rfl, hw⟩
  · have b : (vEp y == 25) = false := by simpa using a
    have R := Lib.hid (show vLab y = vEp y by unfold vLab; rw [if_neg (fun h => a h.1)])
    go_enter Tryz.func233, Tryz.ntmps233
    go_wp2_with (first | (go_at_call 247; with_reducible refine (epOf_c _ _ h1 h2).mono ?_; rintro e w' ⟨rfl, hw⟩) | (go_at_call 248; with_reducible refine (golden_c _ _ (by omega) h2).mono ?_; rintro e w' ⟨rfl, rfl⟩))
    go_ret2
    exact ⟨ret_ii R.out.symm rfl, hw⟩

/-! the same in the reference -/
set_option maxHeartbeats 400000 in
theorem rgolden_c (y : Int) (w : World) (h1 : 1 ≤ y) (h2 : y ≤ 1000000000) : Calls Tryz.prog 187 #[.int .i64 y] w fun e w' => e = .returned (.int .i64 (y % 19 + 1)) ∧ w = w' := by
  have a1 : 0 ≤ y / 19 := by omega
  have a2 : y / 19 ≤ 1000000000 := by omega
  go_enter Tryz.func187, Tryz.ntmps187
  go_wp2
  go_ret
  exact ⟨ret_int (by omega), rfl⟩
set_option maxHeartbeats 400000 in
theorem rsolar_c (y : Int) (w : World) (h1 : 1583 ≤ y) (h2 : y ≤ 1000000000) : Calls Tryz.prog 213 #[.int .i64 y] w fun e w' => e = .returned (.int .i64 (3 * (y / 100 + 1) / 4 - 12)) ∧ w = w' := by
  have a1 : 0 ≤ y / 100 := by omega
  have a2 : y / 100 ≤ 10000000 := by omega
  have a5 : 0 ≤ 3 * (y / 100 + 1) / 4 := by omega
  have a6 : 3 * (y / 100 + 1) / 4 ≤ 10000000 := by omega
  go_enter Tryz.func213, Tryz.ntmps213
  go_wp2
  go_ret
  exact ⟨rfl, rfl⟩
set_option maxHeartbeats 400000 in
theorem rlunar_c (y : Int) (w : World) (h1 : 1583 ≤ y) (h2 : y ≤ 1000000000) : Calls Tryz.prog 212 #[.int .i64 y] w fun e w' => e = .returned (.int .i64 ((8 * (y / 100 + 1) + 5) / 25 - 5)) ∧ w = w' := by
  have a1 : 0 ≤ y / 100 := by omega
  have a2 : y / 100 ≤ 10000000 := by omega
  have a3 : 0 ≤ (8 * (y / 100 + 1) + 5) / 25 := by omega
  have a4 : (8 * (y / 100 + 1) + 5) / 25 ≤ 10000000 := by omega
  go_enter Tryz.func212, Tryz.ntmps212
  go_wp2
  go_ret
  exact ⟨rfl, rfl⟩
end Go.Proofs.YtdgaflcnigljlaaGreatDoor
/-
  Contracts of the calendar of epact labels, of the program and of the reference, for the days from 8 March to 5 April, wherever the tables lie in memory as the program text lays them.
-/
namespace Go.Proofs.YtdgaflcnigljlaaGreatDoor
open Go.RowKit Go.Proofs.YtdgaflcnigljlaaGreatDoorW.PrintWords
set_option linter.unusedVariables false
def lensV : List Value := [.int .i64 31, .int .i64 28, .int .i64 31, .int .i64 30, .int .i64 31, .int .i64 30, .int .i64 31, .int .i64 31, .int .i64 30, .int .i64 31, .int .i64 30, .int .i64 31]
def spansV : List Value := [.int .i64 30, .int .i64 29, .int .i64 30, .int .i64 29, .int .i64 30, .int .i64 29, .int .i64 30, .int .i64 29, .int .i64 30, .int .i64 29, .int .i64 30, .int .i64 29]
def polsV : List Value := [.string ⟨#[116, 114, 97, 110, 115, 102, 101, 114]⟩, .string ⟨#[99, 111, 109, 109, 101, 109, 111, 114, 97, 116, 101]⟩, .string ⟨#[111, 109, 105, 116]⟩]
def powsV : List Value := [.int .u64 1, .int .u64 10, .int .u64 100, .int .u64 1000, .int .u64 10000, .int .u64 100000, .int .u64 1000000, .int .u64 10000000, .int .u64 100000000, .int .u64 1000000000, .int .u64 10000000000, .int .u64 100000000000, .int .u64 1000000000000, .int .u64 10000000000000, .int .u64 100000000000000, .int .u64 1000000000000000, .int .u64 10000000000000000, .int .u64 100000000000000000, .int .u64 1000000000000000000, .int .u64 10000000000000000000]
/-- The tables lie in memory as the program's text lays them. -/
structure Tabs (w : World) : Prop where
  size : 10 ≤ w.heap.size
  lens : ∀ i v, lensV[i]? = some v → w.cell? ⟨8, i, none⟩ = some v
  spans : ∀ i v, spansV[i]? = some v → w.cell? ⟨9, i, none⟩ = some v
  pols : ∀ i v, polsV[i]? = some v → w.cell? ⟨0, i, none⟩ = some v
  pows : ∀ i v, powsV[i]? = some v → w.cell? ⟨4, i, none⟩ = some v
theorem Tabs.below {w w1 : World} (h : Tabs w) (hb : Below w.heap.size w w1) : Tabs w1 := by
  have s := h.size
  refine ⟨Nat.le_trans s hb.size, ?_, ?_, ?_, ?_⟩
  · intro i v e; rw [hb.cell (show (8 : Nat) < w.heap.size by omega)]; exact h.lens i v e
  · intro i v e; rw [hb.cell (show (9 : Nat) < w.heap.size by omega)]; exact h.spans i v e
  · intro i v e; rw [hb.cell (show (0 : Nat) < w.heap.size by omega)]; exact h.pols i v e
  · intro i v e; rw [hb.cell (show (4 : Nat) < w.heap.size by omega)]; exact h.pows i v e

set_option maxHeartbeats 400000 in
theorem pos3_c (d : Int) (w : World) (ht : Hid (Tabs w)) (h1 : 1 ≤ d) (h2 : d ≤ 30) : Calls Tryz.prog 266 #[.int .i64 3, .int .i64 d] w fun e w' => e = .returned (.tuple #[.int .i64 2, .int .i64 (d - 1), .bool true]) ∧ w = w' := by
  have l0 := ht.out.lens 0 _ rfl
  have l1 := ht.out.lens 1 _ rfl
  have l2 := ht.out.lens 2 _ rfl
  have s0 := ht.out.spans 0 _ rfl
  have s1 := ht.out.spans 1 _ rfl
  have s2 := ht.out.spans 2 _ rfl
  have hx : decide (d ≤ 31) = true := by simp <;> omega
  go_enter Tryz.func266, Tryz.ntmps266
  go_wp2
  go_loop [19, 5] (fun i p => (i = .int .i64 0 ∧ p = .int .i64 (d - 1)) ∨ (i = .int .i64 1 ∧ p = .int .i64 (d + 30)) ∨ (i = .int .i64 2 ∧ p = .int .i64 (d + 58))) (fun i _ => (2 - intOf i).toNat)
  case atStart => exact .inl ⟨rfl, rfl⟩
  case round =>
    rcases hrel with ⟨rfl, rfl⟩ | ⟨rfl, rfl⟩ | ⟨rfl, rfl⟩
    · go_wp2
      go_round
      case rel => exact .inr (.inl ⟨rfl, by go_num⟩)
      case measure => simp [intOf]
    · go_wp2
      go_round
      case rel => exact .inr (.inr (⟨rfl, by go_num⟩))
      case measure => simp [intOf]
    · go_wp2
      go_loop [4, 5] (fun i p => (i = .int .i64 0 ∧ p = .int .i64 (d + 58)) ∨ (i = .int .i64 1 ∧ p = .int .i64 (d + 28)) ∨ (i = .int .i64 2 ∧ p = .int .i64 (d - 1))) (fun i _ => (2 - intOf i).toNat)
      case atStart => exact .inl ⟨rfl, rfl⟩
      case round =>
        rcases hrel with ⟨rfl, rfl⟩ | ⟨rfl, rfl⟩ | ⟨rfl, rfl⟩
        · have hy : decide ((30 : Int) ≤ d + 58) = true := by simp <;> omega
          go_wp2
          go_round
          case rel => exact .inr (.inl ⟨rfl, by go_num⟩)
          case measure => simp [intOf]
        · have hy : decide ((29 : Int) ≤ d + 28) = true := by simp <;> omega
          go_wp2
          go_round
          case rel => exact .inr (.inr (⟨rfl, by go_num⟩))
          case measure => simp [intOf]
        · have hy : decide ((30 : Int) ≤ d - 1) = false := by simp <;> omega
          go_wp2
          go_ret3
          exact ⟨ret_iib (by first | rfl | omega) (by first | rfl | omega) rfl, rfl⟩
set_option maxHeartbeats 400000 in
theorem pos31_c (w : World) (ht : Hid (Tabs w)) : Calls Tryz.prog 266 #[.int .i64 3, .int .i64 31] w fun e w' => e = .returned (.tuple #[.int .i64 3, .int .i64 0, .bool true]) ∧ w = w' := by
  have l0 := ht.out.lens 0 _ rfl
  have l1 := ht.out.lens 1 _ rfl
  have l2 := ht.out.lens 2 _ rfl
  have s0 := ht.out.spans 0 _ rfl
  have s1 := ht.out.spans 1 _ rfl
  have s2 := ht.out.spans 2 _ rfl
  have s3 := ht.out.spans 3 _ rfl
  have hx : decide ((31 : Int) ≤ 31) = true := by simp <;> omega
  go_enter Tryz.func266, Tryz.ntmps266
  go_wp2
  go_loop [19, 5] (fun i p => (i = .int .i64 0 ∧ p = .int .i64 30) ∨ (i = .int .i64 1 ∧ p = .int .i64 61) ∨ (i = .int .i64 2 ∧ p = .int .i64 89)) (fun i _ => (2 - intOf i).toNat)
  case atStart => exact .inl ⟨rfl, rfl⟩
  case round =>
    rcases hrel with ⟨rfl, rfl⟩ | ⟨rfl, rfl⟩ | ⟨rfl, rfl⟩
    · go_wp2
      go_round
      case rel => exact .inr (.inl ⟨rfl, by go_num⟩)
      case measure => simp [intOf]
    · go_wp2
      go_round
      case rel => exact .inr (.inr (⟨rfl, by go_num⟩))
      case measure => simp [intOf]
    · go_wp2
      go_loop [4, 5] (fun i p => (i = .int .i64 0 ∧ p = .int .i64 89) ∨ (i = .int .i64 1 ∧ p = .int .i64 59) ∨ (i = .int .i64 2 ∧ p = .int .i64 30) ∨ (i = .int .i64 3 ∧ p = .int .i64 0)) (fun i _ => (3 - intOf i).toNat)
      case atStart => exact .inl ⟨rfl, rfl⟩
      case round =>
        rcases hrel with ⟨rfl, rfl⟩ | ⟨rfl, rfl⟩ | ⟨rfl, rfl⟩ | ⟨rfl, rfl⟩
        · have hy : decide ((30 : Int) ≤ (89 : Int)) = true := by simp <;> omega
          go_wp2
          go_round
          case rel => exact .inr (.inl ⟨rfl, by go_num⟩)
          case measure => simp [intOf]
        · have hy : decide ((29 : Int) ≤ (59 : Int)) = true := by simp <;> omega
          go_wp2
          go_round
          case rel => exact .inr (.inr (.inl ⟨rfl, by go_num⟩))
          case measure => simp [intOf]
        · have hy : decide ((30 : Int) ≤ (30 : Int)) = true := by simp <;> omega
          go_wp2
          go_round
          case rel => exact .inr (.inr (.inr (⟨rfl, by go_num⟩)))
          case measure => simp [intOf]
        · have hy : decide ((29 : Int) ≤ (0 : Int)) = false := by simp <;> omega
          go_wp2
          go_ret3
          exact ⟨ret_iib (by first | rfl | omega) (by first | rfl | omega) rfl, rfl⟩
set_option maxHeartbeats 400000 in
theorem pos4_c (d : Int) (w : World) (ht : Hid (Tabs w)) (h1 : 1 ≤ d) (h2 : d ≤ 5) : Calls Tryz.prog 266 #[.int .i64 4, .int .i64 d] w fun e w' => e = .returned (.tuple #[.int .i64 3, .int .i64 d, .bool true]) ∧ w = w' := by
  have l0 := ht.out.lens 0 _ rfl
  have l1 := ht.out.lens 1 _ rfl
  have l2 := ht.out.lens 2 _ rfl
  have l3 := ht.out.lens 3 _ rfl
  have s0 := ht.out.spans 0 _ rfl
  have s1 := ht.out.spans 1 _ rfl
  have s2 := ht.out.spans 2 _ rfl
  have s3 := ht.out.spans 3 _ rfl
  have hx : decide (d ≤ 30) = true := by simp <;> omega
  go_enter Tryz.func266, Tryz.ntmps266
  go_wp2
  go_loop [19, 5] (fun i p => (i = .int .i64 0 ∧ p = .int .i64 (d - 1)) ∨ (i = .int .i64 1 ∧ p = .int .i64 (d + 30)) ∨ (i = .int .i64 2 ∧ p = .int .i64 (d + 58)) ∨ (i = .int .i64 3 ∧ p = .int .i64 (d + 89))) (fun i _ => (3 - intOf i).toNat)
  case atStart => exact .inl ⟨rfl, rfl⟩
  case round =>
    rcases hrel with ⟨rfl, rfl⟩ | ⟨rfl, rfl⟩ | ⟨rfl, rfl⟩ | ⟨rfl, rfl⟩
    · go_wp2
      go_round
      case rel => exact .inr (.inl ⟨rfl, by go_num⟩)
      case measure => simp [intOf]
    · go_wp2
      go_round
      case rel => exact .inr (.inr (.inl ⟨rfl, by go_num⟩))
      case measure => simp [intOf]
    · go_wp2
      go_round
      case rel => exact .inr (.inr (.inr (⟨rfl, by go_num⟩)))
      case measure => simp [intOf]
    · go_wp2
      go_loop [4, 5] (fun i p => (i = .int .i64 0 ∧ p = .int .i64 (d + 89)) ∨ (i = .int .i64 1 ∧ p = .int .i64 (d + 59)) ∨ (i = .int .i64 2 ∧ p = .int .i64 (d + 30)) ∨ (i = .int .i64 3 ∧ p = .int .i64 (d))) (fun i _ => (3 - intOf i).toNat)
      case atStart => exact .inl ⟨rfl, rfl⟩
      case round =>
        rcases hrel with ⟨rfl, rfl⟩ | ⟨rfl, rfl⟩ | ⟨rfl, rfl⟩ | ⟨rfl, rfl⟩
        · have hy : decide ((30 : Int) ≤ d + 89) = true := by simp <;> omega
          go_wp2
          go_round
          case rel => exact .inr (.inl ⟨rfl, by go_num⟩)
          case measure => simp [intOf]
        · have hy : decide ((29 : Int) ≤ d + 59) = true := by simp <;> omega
          go_wp2
          go_round
          case rel => exact .inr (.inr (.inl ⟨rfl, by go_num⟩))
          case measure => simp [intOf]
        · have hy : decide ((30 : Int) ≤ d + 30) = true := by simp <;> omega
          go_wp2
          go_round
          case rel => exact .inr (.inr (.inr (⟨rfl, by go_num⟩)))
          case measure => simp [intOf]
        · have hy : decide ((29 : Int) ≤ d) = false := by simp <;> omega
          go_wp2
          go_ret3
          exact ⟨ret_iib (by first | rfl | omega) (by first | rfl | omega) rfl, rfl⟩

theorem rd_mem {xs : List Int} {i : Int} (h0 : 0 ≤ i) (h1 : i < xs.length) : rd xs i ∈ xs := by
  unfold rd
  rw [List.getD_eq_getElem?_getD, List.getElem?_eq_getElem (by omega)]
  exact List.getElem_mem _
theorem mem_rd {xs : List Int} {l : Int} (h : l ∈ xs) : ∃ j : Int, 0 ≤ j ∧ j < xs.length ∧ rd xs j = l := by
  obtain ⟨n, hn, e⟩ := List.getElem_of_mem h
  refine ⟨n, by omega, by omega, ?_⟩
  unfold rd
  rw [List.getD_eq_getElem?_getD, List.getElem?_eq_getElem (by omega)]
  simpa using e
set_option maxHeartbeats 400000 in
theorem index_c (A : Option Addr) (n c : Nat) (xs : List Int) (l : Int) (w : World) (h : Hid (ReadsInt w .i64 A n xs)) : Calls Tryz.prog 265 #[.slice A n c, .int .i64 l] w fun e w' => ∃ r, (e = .returned (.int .i64 r) ∧ (0 ≤ r ↔ l ∈ xs)) ∧ w = w' := by
  have hl := h.out.1
  have hn := h.out.2.1
  go_enter Tryz.func265, Tryz.ntmps265
  go_wp2
  go_loop [8] (fun i => ∃ k : Int, 0 ≤ k ∧ k ≤ n ∧ i = .int .i64 k ∧ Hid (∀ j : Int, 0 ≤ j → j < k → rd xs j ≠ l)) (fun i => (n - intOf i).toNat)
  case atStart => exact ⟨0, by omega, by omega, rfl, Lib.hid (fun j a b => by omega)⟩
  case round =>
    obtain ⟨k, k0, k1, rfl, H⟩ := hrel
    by_cases hk : k < n
    · obtain ⟨ad, rfl, hc⟩ := h.out.at_ k k0 hk
      by_cases he : rd xs k = l
      · have hb : (l == rd xs k) = true := by simp [he]
        have R := Lib.hid (show 0 ≤ k ↔ l ∈ xs from ⟨fun _ => he ▸ rd_mem k0 (by omega), fun _ => k0⟩)
        go_wp2
        go_ret
        exact ⟨⟨k, rfl, R.out⟩, rfl⟩
      · have hb : (l == rd xs k) = false := by simp; exact fun e => he e.symm
        have R := Lib.hid (show ∀ j : Int, 0 ≤ j → j < k + 1 → rd xs j ≠ l from fun j a b => by
          by_cases e : j = k
          · rw [e]; exact he
          · exact H.out j a (by omega))
        go_wp2
        go_round
        case rel => exact ⟨k + 1, by omega, by omega, by go_num, R⟩
        case measure => simp [intOf]; omega
    · have R := Lib.hid (show 0 ≤ (-1 : Int) ↔ l ∈ xs from ⟨fun h => by omega, fun h => by
        obtain ⟨j, a, b, e⟩ := mem_rd h
        exact absurd e (H.out j a (by omega))⟩)
      go_wp2
      go_ret
      exact ⟨⟨-1, rfl, R.out⟩, rfl⟩
set_option maxHeartbeats 400000 in
theorem contains_c (A : Option Addr) (n c : Nat) (xs : List Int) (l : Int) (w : World) (h : Hid (ReadsInt w .i64 A n xs)) : Calls Tryz.prog 259 #[.slice A n c, .int .i64 l] w fun e w' => e = .returned (.bool (decide (l ∈ xs))) ∧ w = w' := by
  go_enter Tryz.func259, Tryz.ntmps259
  go_wp2_with ((go_at_call 265; with_reducible refine (index_c _ _ _ _ _ _ h).mono ?_; rintro e w' ⟨r, ⟨rfl, hr⟩, rfl⟩))
  go_ret
  first | exact ⟨rfl, rfl⟩ | exact ⟨ret_bool (decide_eq_decide.2 hr), rfl⟩

/-- Does the day k days after 8 March bear the label? -/
def bearsK (k l : Int) : Bool := decide ((k ≤ 22 ∧ l = 23 - k) ∨ (23 ≤ k ∧ k ≤ 27 ∧ l = 53 - k) ∨ (k = 27 ∧ l = 31) ∨ (k = 28 ∧ (l = 25 ∨ l = 24)))
def mK (k : Int) : Int := if k ≤ 23 then 3 else 4
def dK (k : Int) : Int := if k ≤ 23 then 8 + k else k - 23
theorem bK1 {k l : Int} (h0 : 0 ≤ k) (h : k ≤ 22) : decide (l = 23 - k) = bearsK k l := by unfold bearsK; rw [decide_eq_decide]; omega
theorem bK2 {k l : Int} (h0 : 23 ≤ k) (h : k ≤ 26) : decide (l = 53 - k) = bearsK k l := by unfold bearsK; rw [decide_eq_decide]; omega
theorem bK3 {l : Int} : (decide (l = 31) || decide (l = 26)) = bearsK 27 l := by
  unfold bearsK
  by_cases a : l = 31
  · subst a; decide
  · by_cases b : l = 26
    · subst b; decide
    · simp [a, b]
theorem bK4 {l : Int} : (decide (l = 25) || decide (l = 24)) = bearsK 28 l := by
  unfold bearsK
  by_cases a : l = 25
  · subst a; decide
  · by_cases b : l = 24
    · subst b; decide
    · simp [a, b]
theorem reads1 (w : World) (a : Int) (t : TypeId) : ReadsInt (w.alloc (.cells #[.int .i64 a] t)) .i64 (some ⟨w.heap.size, 0, none⟩) 1 [a] :=
  ⟨rfl, by omega, fun _ => ⟨_, rfl, fun j hj => by
    obtain rfl : j = 0 := by omega
    exact (Blk.new w #[.int .i64 a] t).cell 0⟩⟩
theorem reads2 (w : World) (a b : Int) (t : TypeId) : ReadsInt (w.alloc (.cells #[.int .i64 a, .int .i64 b] t)) .i64 (some ⟨w.heap.size, 0, none⟩) 2 [a, b] :=
  ⟨rfl, by omega, fun _ => ⟨_, rfl, fun j hj => by
    obtain rfl | rfl : j = 0 ∨ j = 1 := by omega
    · exact (Blk.new w #[.int .i64 a, .int .i64 b] t).cell 0
    · exact (Blk.new w #[.int .i64 a, .int .i64 b] t).cell 1⟩⟩
set_option maxHeartbeats 400000 in
theorem bears1_c (k l : Int) (w : World) (ht : Hid (Tabs w)) (h0 : 0 ≤ k) (h : k ≤ 22) : Calls Tryz.prog 249 #[.int .i64 3, .int .i64 (8 + k), .int .i64 l] w fun e w' => e = .returned (.bool (bearsK k l)) ∧ Below w.heap.size w w' := by
  have b5 : (8 + k - 1 == 5) = false := by simp; omega
  go_enter Tryz.func249, Tryz.ntmps249
  go_wp2_with (first | (go_at_call 260; go_in) | (go_at_call 266; with_reducible refine (pos3_c _ _ ht (by omega) (by omega)).mono ?_; rintro e w' ⟨rfl, rfl⟩) | (go_at_call 259; with_reducible refine (contains_c _ _ _ [30 - (8 + k - 1)] _ _ (Lib.hid (reads1 w (30 - (8 + k - 1)) 3))).mono ?_; rintro e w' ⟨rfl, rfl⟩))
  go_ret
  exact ⟨ret_bool (by rw [show 30 - (8 + k - 1) = 23 - k by omega]; exact bK1 h0 h), (Below.refl _ _).alloc (Nat.le_refl _) _⟩
set_option maxHeartbeats 400000 in
theorem bears2_c (l : Int) (w : World) (ht : Hid (Tabs w)) : Calls Tryz.prog 249 #[.int .i64 3, .int .i64 31, .int .i64 l] w fun e w' => e = .returned (.bool (bearsK 23 l)) ∧ Below w.heap.size w w' := by
  go_enter Tryz.func249, Tryz.ntmps249
  go_wp2_with (first | (go_at_call 260; go_in) | (go_at_call 266; with_reducible refine (pos31_c _ ht).mono ?_; rintro e w' ⟨rfl, rfl⟩) | (go_at_call 259; with_reducible refine (contains_c _ _ _ [30] _ _ (Lib.hid (reads1 w (30) 3))).mono ?_; rintro e w' ⟨rfl, rfl⟩))
  go_ret
  exact ⟨ret_bool (bK2 (k := 23) (by omega) (by omega)), (Below.refl _ _).alloc (Nat.le_refl _) _⟩
set_option maxHeartbeats 400000 in
theorem bears3_c (k l : Int) (w : World) (ht : Hid (Tabs w)) (h0 : 24 ≤ k) (h : k ≤ 26) : Calls Tryz.prog 249 #[.int .i64 4, .int .i64 (k - 23), .int .i64 l] w fun e w' => e = .returned (.bool (bearsK k l)) ∧ Below w.heap.size w w' := by
  have b4 : (k - 23 == 4) = false := by simp; omega
  have b5 : (k - 23 == 5) = false := by simp; omega
  have b6 : decide (5 < k - 23) = false := by simp; omega
  go_enter Tryz.func249, Tryz.ntmps249
  go_wp2_with (first | (go_at_call 260; go_in) | (go_at_call 266; with_reducible refine (pos4_c _ _ ht (by omega) (by omega)).mono ?_; rintro e w' ⟨rfl, rfl⟩) | (go_at_call 259; with_reducible refine (contains_c _ _ _ [30 - (k - 23)] _ _ (Lib.hid (reads1 w (30 - (k - 23)) 3))).mono ?_; rintro e w' ⟨rfl, rfl⟩))
  go_ret
  exact ⟨ret_bool (by rw [show 30 - (k - 23) = 53 - k by omega]; exact bK2 (by omega) h), (Below.refl _ _).alloc (Nat.le_refl _) _⟩
set_option maxHeartbeats 400000 in
theorem bears4_c (l : Int) (w : World) (ht : Hid (Tabs w)) : Calls Tryz.prog 249 #[.int .i64 4, .int .i64 4, .int .i64 l] w fun e w' => e = .returned (.bool (bearsK 27 l)) ∧ Below w.heap.size w w' := by
  go_enter Tryz.func249, Tryz.ntmps249
  go_wp2_with (first | (go_at_call 260; go_in) | (go_at_call 266; with_reducible refine (pos4_c _ _ ht (by omega) (by omega)).mono ?_; rintro e w' ⟨rfl, rfl⟩) | (go_at_call 259; with_reducible refine (contains_c _ _ _ [31, 26] _ _ (Lib.hid (reads2 w (31) (26) 3))).mono ?_; rintro e w' ⟨rfl, rfl⟩))
  go_ret
  exact ⟨ret_bool (bK3), (Below.refl _ _).alloc (Nat.le_refl _) _⟩
set_option maxHeartbeats 400000 in
theorem bears5_c (l : Int) (w : World) (ht : Hid (Tabs w)) : Calls Tryz.prog 249 #[.int .i64 4, .int .i64 5, .int .i64 l] w fun e w' => e = .returned (.bool (bearsK 28 l)) ∧ Below w.heap.size w w' := by
  go_enter Tryz.func249, Tryz.ntmps249
  go_wp2_with (first | (go_at_call 260; go_in) | (go_at_call 266; with_reducible refine (pos4_c _ _ ht (by omega) (by omega)).mono ?_; rintro e w' ⟨rfl, rfl⟩) | (go_at_call 259; with_reducible refine (contains_c _ _ _ [25, 24] _ _ (Lib.hid (reads2 w (25) (24) 3))).mono ?_; rintro e w' ⟨rfl, rfl⟩))
  go_ret
  exact ⟨ret_bool (bK4), (Below.refl _ _).alloc (Nat.le_refl _) _⟩
theorem bears_c (k l : Int) (w : World) (ht : Hid (Tabs w)) (h0 : 0 ≤ k) (h : k ≤ 28) : Calls Tryz.prog 249 #[.int .i64 (mK k), .int .i64 (dK k), .int .i64 l] w fun e w' => e = .returned (.bool (bearsK k l)) ∧ Below w.heap.size w w' := by
  unfold mK dK
  by_cases h1 : k ≤ 22
  · rw [if_pos (by omega), if_pos (by omega)]; exact bears1_c k l w ht h0 h1
  by_cases h2 : k = 23
  · subst h2; exact bears2_c l w ht
  rw [if_neg (by omega), if_neg (by omega)]
  by_cases h3 : k ≤ 26
  · exact bears3_c k l w ht (by omega) h3
  by_cases h4 : k = 27
  · subst h4; exact bears4_c l w ht
  · obtain rfl : k = 28 := by omega
    exact bears5_c l w ht
end Go.Proofs.YtdgaflcnigljlaaGreatDoor
