/-
  Contracts and plain facts for the laws on the whole program: the parts below say each what they are. No further condition.
-/
import Derived.Test.YtdgaflcnigljlaaGreatDoorS02
import Derived.Test.YtdgaflcnigljlaaGreatDoorS17
import Derived.Test.YtdgaflcnigljlaaGreatDoorS23
import Derived.Test.YtdgaflcnigljlaaGreatDoorS26
import Derived.WalkSmall
import Derived.Deep.RegionHeld3
import Derived.BigQuiet
set_option linter.unusedSimpArgs false
/-
  Contracts of package query: the text of a date. The table of powers of ten as laid. No further condition.
-/
namespace Go.Proofs.YtdgaflcnigljlaaGreatDoor
open Go.RowKit Go.Proofs Go.MapKept Go.Proofs.YtdgaflcnigljlaaGreatDoorW.PrintWords
set_option linter.unusedVariables false
/-- The powers of ten lie as the library's text lays them. -/
structure PowIn (w : World) : Prop where
  tab : Lib.TabIs Tryz.prog w "internal/strconv.uint64pow10" .u64 Lib.pow10Tab
  size : 5 ≤ w.heap.size
theorem pow_at : (Tryz.prog).globalNamed "internal/strconv.uint64pow10" = some 4 := by kernel_rfl
theorem PowIn.below {w W : World} (h : PowIn w) (hb : Below w.heap.size w W) : PowIn W := ⟨var?_below hb pow_at (by have := h.size; omega) h.tab, Nat.le_trans h.size hb.size⟩
def vItoa (n : Int) : ByteArray := ⟨(Lib.itoa n).toArray⟩
theorem itoa_c (n : Int) (w : World) (hp : Hid (PowIn w)) (h0 : -9223372036854775808 ≤ n) (h1 : n ≤ 9223372036854775807) : Calls Tryz.prog 148 #[.int .i64 n] w fun e w' => e = .returned (.string (vItoa n)) ∧ Below w.heap.size w w' := by
  refine (Tryz.strconv_Itoa n h0 h1 w hp.out.tab).mono ?_
  rintro e w' ⟨rfl, k, os, rfl⟩
  exact ⟨rfl, rfl, rfl, rfl, by simp [Sort.grow], fun j hj => by simp [Sort.grow, Array.getElem?_append, hj]⟩
def vSp : ByteArray := ⟨#[32]⟩
def vDateText (y m d : Int) : ByteArray := vItoa y ++ vSp ++ vItoa m ++ vSp ++ vItoa d
set_option maxRecDepth 20000 in
set_option maxHeartbeats 1000000 in
theorem dtext_c (y m d : Int) (w : World) (hp : Hid (PowIn w)) (y0 : -1000000000000 ≤ y) (y1 : y ≤ 1000000000000) (m0 : -1000 ≤ m) (m1 : m ≤ 1000) (d0 : -1000 ≤ d) (d1 : d ≤ 1000) (sy : (vItoa y).size ≤ 100) (sm : (vItoa m).size ≤ 100) (sd : (vItoa d).size ≤ 100) : Calls Tryz.prog 109 #[.agg #[.int .i64 y, .int .i64 m, .int .i64 d]] w fun e w' => e = .returned (.string (vDateText y m d)) ∧ Below w.heap.size w w' := by
  obtain ⟨t1, ht1⟩ : ∃ t1, vItoa y ++ vSp = t1 := ⟨_, rfl⟩
  obtain ⟨t2, ht2⟩ : ∃ t2, t1 ++ vItoa m = t2 := ⟨_, rfl⟩
  obtain ⟨t3, ht3⟩ : ∃ t3, t2 ++ vSp = t3 := ⟨_, rfl⟩
  obtain ⟨t4, ht4⟩ : ∃ t4, t3 ++ vItoa d = t4 := ⟨_, rfl⟩
  have ss : vSp.size = 1 := rfl
  have n1 : t1.size ≤ 101 := by rw [← ht1, ByteArray.size_append]; omega
  have n2 : t2.size ≤ 201 := by rw [← ht2, ByteArray.size_append]; omega
  have n3 : t3.size ≤ 202 := by rw [← ht3, ByteArray.size_append]; omega
  have Z1 : ∀ W : World, (Op.stringOp .add (vItoa y) ⟨#[32]⟩).run Tryz.prog W = .ok (.string t1) W := fun W => by rw [← ht1]; exact run_string_add_sum W _ _ (by show _ + vSp.size ≤ _; omega)
  have Z2 : ∀ W : World, (Op.stringOp .add t1 (vItoa m)).run Tryz.prog W = .ok (.string t2) W := fun W => by rw [← ht2]; exact run_string_add_sum W _ _ (by omega)
  have Z3 : ∀ W : World, (Op.stringOp .add t2 ⟨#[32]⟩).run Tryz.prog W = .ok (.string t3) W := fun W => by rw [← ht3]; exact run_string_add_sum W _ _ (by show _ + vSp.size ≤ _; omega)
  have Z4 : ∀ W : World, (Op.stringOp .add t3 (vItoa d)).run Tryz.prog W = .ok (.string t4) W := fun W => by rw [← ht4]; exact run_string_add_sum W _ _ (by omega)
  have HT : Hid (vDateText y m d = t4) := Lib.hid (by unfold vDateText; rw [ht1, ht2, ht3, ht4])
  clear ht1 ht2 ht3 ht4 n1 n2 n3 ss sy sm sd
  have HB : Hid (Below w.heap.size w (w.alloc (.cells #[.int .i64 y, .int .i64 m, .int .i64 d] 39))) := Lib.hid ((Below.refl _ _).alloc (Nat.le_refl _) _)
  have BB : Hid (Blk (w.alloc (.cells #[.int .i64 y, .int .i64 m, .int .i64 d] 39)) w.heap.size #[.int .i64 y, .int .i64 m, .int .i64 d] 39) := Lib.hid (Blk.new _ _ _)
  go_enter Tryz.func109, Tryz.ntmps109
  go_upto_region 1 with fail
  generalize w.alloc (.cells #[.int .i64 y, .int .i64 m, .int .i64 d] 39) = W0 at *
  have D1 : Below W0.heap.size W0 W0.drew := (Below.refl _ _).drew
  have bw : ∀ x : Of (fun W : World => Below W0.heap.size W0 W), Below w.heap.size w x.val := fun x => below_then HB.out HB.out.size x.ok
  have g0 : ∀ x : Of (fun W : World => Below W0.heap.size W0 W), x.val.cell? ⟨w.heap.size, 0, none⟩ = some (.int .i64 y) := fun x => (BB.out.below x.ok).cell 0
  have g1 : ∀ x : Of (fun W : World => Below W0.heap.size W0 W), x.val.cell? ⟨w.heap.size, 1, none⟩ = some (.int .i64 m) := fun x => (BB.out.below x.ok).cell 1
  have g2 : ∀ x : Of (fun W : World => Below W0.heap.size W0 W), x.val.cell? ⟨w.heap.size, 2, none⟩ = some (.int .i64 d) := fun x => (BB.out.below x.ok).cell 2
  refine wp_region_cls (C := fun W : World => Below W0.heap.size W0 W) (by kernel_rfl) (by kernel_rfl) D1 ?_
  haveI : Nonempty (Of (fun W : World => Below W0.heap.size W0 W)) := ⟨⟨_, D1⟩⟩
  clear D1
  repeat go_big_quiet_step (first | (go_at_call 148; refine (itoa_c _ _ (Lib.hid (hp.out.below (bw _))) (by omega) (by omega)).mono ?_; rintro ee w6 ⟨rfl, hw⟩; exact ⟨rfl, ⟨⟨w6, chain (Of.ok _) hw⟩, rfl⟩⟩))
  refine wpQuiet_nil ?_
  rintro _ ⟨w5, rfl⟩
  go_wp2_with fail
  go_ret
  exact ⟨by rw [HT.out]; rfl, bw w5⟩
end Go.Proofs.YtdgaflcnigljlaaGreatDoor
/-
  Contracts of packages easter and query: the date of Easter; the answer for Easter by the tables. The tables as laid. No further condition.
-/
namespace Go.Proofs.YtdgaflcnigljlaaGreatDoor
open Go.RowKit Go.Proofs Go.MapKept Go.Proofs.YtdgaflcnigljlaaGreatDoorW.PrintWords
set_option linter.unusedVariables false
theorem eas_ok {y : Int} (h1 : 1583 ≤ y) (h2 : y ≤ 1000000000) : vDayOk (vEas y) = true := by
  obtain ⟨a, b⟩ := vMoon_in h1 h2
  obtain ⟨l1, l2⟩ := vLab_in y
  obtain ⟨p1, p2⟩ := pK_in l1 l2
  obtain ⟨c, d⟩ := dat_from h1 h2 (k := 13 + pK (vLab y) + 7) (by omega) (by omega)
  obtain ⟨c0, d0⟩ := dat_from h1 h2 (k := 13 + pK (vLab y)) (by omega) (by omega)
  have e1 := vDayOk_iff.1 c
  have e0 := vDayOk_iff.1 c0
  refine vDayOk_iff.2 ?_
  unfold vEas vMoon
  omega
set_option maxHeartbeats 400000 in
theorem edate_c (y : Int) (w : World) (ht : Hid (Tabs w)) (h1 : 1583 ≤ y) (h2 : y ≤ 1000000000) : Calls Tryz.prog 145 #[.int .i64 2, .int .i64 y] w fun e w' => e = .returned (.tuple #[.agg #[.int .i64 (vYear (vEas y)), .int .i64 (mMon (vEas y)), .int .i64 (mDay (vEas y))], .int .i64 0]) ∧ Below w.heap.size w w' := by
  have HB := Lib.hid ((Below.refl w.heap.size w).alloc (Nat.le_refl _) (.cells #[.int .i64 0, .int .i64 0, .int .i64 0] 39))
  have B0 := Lib.hid (Blk.new w #[.int .i64 0, .int .i64 0, .int .i64 0] 39)
  have EO := Lib.hid (eas_ok h1 h2)
  go_enter Tryz.func145, Tryz.ntmps145
  go_wp2_with (first | (go_at_call 188; with_reducible refine (easter_c y _ (Lib.hid (ht.out.below HB.out)) h1 h2).mono ?_; rintro e w1 ⟨rfl, hw⟩; replace B0 := Lib.hid (B0.out.below hw); replace HB := Lib.hid (below_then HB.out HB.out.size hw); clear hw) | (go_at_call 153; with_reducible refine (civFrom_c _ _ EO).mono ?_; rintro e w2 ⟨rfl, hw⟩; replace B0 := Lib.hid (B0.out.below hw); replace HB := Lib.hid (below_then HB.out HB.out.size hw); clear hw; obtain ⟨⟨a0, a1, a2⟩, a3, a4, a5⟩ := B0.out.c3))
  exact bodyPost_ret (results_ct rfl _ _ w.heap.size 39 #[.int .i64 (vYear (vEas y)), .int .i64 (mMon (vEas y)), .int .i64 (mDay (vEas y))] (0, 0) _ rfl (((B0.out.put 0 _ rfl).put 1 _ rfl).put 2 _ rfl) Tryz.underlying39 rfl (by kernel_rfl)) rfl ⟨rfl, ((HB.out.setCell (Nat.le_refl _) _).setCell (Nat.le_refl _) _).setCell (Nat.le_refl _) _⟩
theorem fail0_c (n : Int) (w : World) : Calls Tryz.prog 51 #[.int .i64 0, .int .i64 n] w fun e w' => e = .returned (.tuple #[]) ∧ w' = w := by
  go_enter Tryz.func51, Tryz.ntmps51
  go_wp2
  go_end0
  exact ⟨rfl, rfl⟩
def mtF (j : Int) : Option Value := if j = 3 then some (.func (.func 147) #[] #[]) else if j = 2 then some (.func (.func 146) #[] #[]) else if j = 1 then some (.func (.func 145) #[] #[]) else none
theorem methods_c (w : World) : Calls Tryz.prog 108 #[] w fun e w' => e = .returned (.map (some w.heap.size)) ∧ MapIs (fun a : Int => Value.int .i64 a) w' w.heap.size mtF ∧ Below w.heap.size w w' := by
  have hmm := @run_makeMap Tryz.prog
  have HB := Lib.hid ((Below.refl w.heap.size w).alloc (Nat.le_refl _) (.map #[] 0))
  have HM := Lib.hid (MapIs.made (inj := fun a : Int => Value.int .i64 a) w)
  go_enter Tryz.func108, Tryz.ntmps108
  go_wp2_with (first | (with_reducible refine wpl_insert 164 rfl rfl KI Tryz.underlying164 rfl HM.out _ _ rfl rfl ?_; intro w1 hm hg1 hs1; replace HM := Lib.hid hm; replace HB := Lib.hid (HB.out.grown hg1 HB.out.size (fun k e => by cases e; exact Nat.le_refl _)); clear hm hg1 hs1))
  go_ret
  exact ⟨rfl, HM.out, HB.out⟩
end Go.Proofs.YtdgaflcnigljlaaGreatDoor
/-
  Contract of package query: the answer for Easter of the year 2024 by the tables. The tables as laid. No further condition.
-/
namespace Go.Proofs.YtdgaflcnigljlaaGreatDoor
open Go.RowKit Go.Proofs Go.MapKept Go.Proofs.YtdgaflcnigljlaaGreatDoorW.PrintWords
set_option linter.unusedVariables false
theorem znf2 (w : World) : (zeroValue 162).run Tryz.prog w = .ok .nilFunc w := by kernel_rfl
theorem mt_look {W0 w1 : World} (hm : MapIs (fun a : Int => Value.int .i64 a) w1 W0.drew.heap.size mtF) : (Instr.lookup 164 (.map (some W0.heap.size)) (.int .i64 1) true).run Tryz.prog w1 = .ok (.tuple #[.func (.func 145) #[] #[], .bool true]) w1 := hm.look KI Tryz.underlying164 1 znf2 true
theorem eas24 : vYear (vEas 2024) = 2024 ∧ mMon (vEas 2024) = 3 ∧ mDay (vEas 2024) = 31 := by refine ⟨?_, ?_⟩ <;> (try (refine ⟨?_, ?_⟩)) <;> (try (refine ⟨?_, ?_⟩)) <;> (try (refine ⟨?_, ?_⟩)) <;> (try (refine ⟨?_, ?_⟩)) <;> (try (refine ⟨?_, ?_⟩)) <;> kernel_rfl
theorem txt24 : vDateText 2024 3 31 = ⟨#[50, 48, 50, 52, 32, 51, 32, 51, 49]⟩ ∧ (vItoa 2024).size = 4 ∧ (vItoa 3).size = 1 ∧ (vItoa 31).size = 2 ∧ vDateText 2024 4 8 = ⟨#[50, 48, 50, 52, 32, 52, 32, 56]⟩ ∧ (vItoa 4).size = 1 ∧ (vItoa 8).size = 1 := by refine ⟨?_, ?_⟩ <;> (try (refine ⟨?_, ?_⟩)) <;> (try (refine ⟨?_, ?_⟩)) <;> (try (refine ⟨?_, ?_⟩)) <;> (try (refine ⟨?_, ?_⟩)) <;> (try (refine ⟨?_, ?_⟩)) <;> kernel_rfl
set_option maxRecDepth 20000 in
set_option maxHeartbeats 1000000 in
theorem qpas_c (w : World) (ht : Hid (Tabs w)) (hp : Hid (PowIn w)) : Calls Tryz.prog 73 #[.agg #[.int .i64 1, .int .i64 2, .int .i64 1, .int .i64 2024, .int .i64 0, .int .i64 0, .int .i64 0, .string ⟨#[]⟩]] w fun e w' => e = .returned (.string ⟨#[50, 48, 50, 52, 32, 51, 32, 51, 49]⟩) ∧ Below w.heap.size w w' := by
  have HB : Hid (Below w.heap.size w (w.alloc (.cells #[.int .i64 1, .int .i64 2, .int .i64 1, .int .i64 2024, .int .i64 0, .int .i64 0, .int .i64 0, .string ⟨#[]⟩] 72))) := Lib.hid ((Below.refl _ _).alloc (Nat.le_refl _) _)
  have BB : Hid (Blk (w.alloc (.cells #[.int .i64 1, .int .i64 2, .int .i64 1, .int .i64 2024, .int .i64 0, .int .i64 0, .int .i64 0, .string ⟨#[]⟩] 72)) w.heap.size #[.int .i64 1, .int .i64 2, .int .i64 1, .int .i64 2024, .int .i64 0, .int .i64 0, .int .i64 0, .string ⟨#[]⟩] 72) := Lib.hid (Blk.new _ _ _)
  have T := Lib.hid txt24
  have E := Lib.hid eas24
  have HT : Hid ((vItoa 2024).size ≤ 100 ∧ (vItoa 3).size ≤ 100 ∧ (vItoa 31).size ≤ 100) := Lib.hid (by obtain ⟨_, a, b, c, _⟩ := txt24; omega)
  go_enter Tryz.func73, Tryz.ntmps73
  go_upto_region 1 with fail
  generalize w.alloc (.cells #[.int .i64 1, .int .i64 2, .int .i64 1, .int .i64 2024, .int .i64 0, .int .i64 0, .int .i64 0, .string ⟨#[]⟩] 72) = W0 at *
  have hB : Below W0.heap.size W0 W0.drew := (Below.refl _ _).drew
  have HC : ∀ V, Below W0.heap.size W0 V → V.cell? ⟨w.heap.size, 2, none⟩ = some (.int .i64 1) := fun V h => (BB.out.below h).cell 2
  have x2 := HC _ (Below.refl _ _)
  go_cut [3, 4] (fun v3 v4 wx => v3 = .func (.func 145) #[] #[] ∧ v4 = .bool true ∧ Hid (Below W0.heap.size W0 wx))
  case first =>
    go_region_held3 (fun w' => w'.cell? ⟨w.heap.size, 2, none⟩ = some (.int .i64 1))
      (first | (with_reducible exact HC _ hB))
      (first
        | (go_at_call 108; with_reducible refine (methods_c _).mono ?_; rintro e w1 ⟨rfl, hm, hb1⟩; have hlk := mt_look hm; replace hB := hB.trans (hb1.mono hB.size)))
    all_goals (go_wp2_with fail)
    all_goals go_meet
    all_goals exact ⟨rfl, rfl, Lib.hid hB⟩
  case rest =>
    clear hB HC x2
    obtain ⟨rfl, rfl, HW⟩ := hcut
    have HB2 := Lib.hid (below_then HB.out HB.out.size HW.out)
    have BB2 := Lib.hid (BB.out.below HW.out)
    clear HW
    have x1 : wc.cell? ⟨w.heap.size, 1, none⟩ = some (.int .i64 2) := BB2.out.cell 1
    have x3 : wc.cell? ⟨w.heap.size, 3, none⟩ = some (.int .i64 2024) := BB2.out.cell 3
    go_wp2_with (first | (go_at_call 145; with_reducible refine (edate_c 2024 _ (Lib.hid (ht.out.below HB2.out)) (by decide) (by decide)).mono ?_; rintro e w2 ⟨rfl, hw⟩; rw [E.out.1, E.out.2.1, E.out.2.2]; replace HB2 := Lib.hid (below_then HB2.out HB2.out.size hw); clear hw) | (go_at_call 51; with_reducible refine (fail0_c _ _).mono ?_; rintro e w3 ⟨rfl, rfl⟩) | (go_at_call 109; with_reducible refine (dtext_c 2024 3 31 _ (Lib.hid (hp.out.below (HB2.out.alloc HB2.out.size _))) (by decide) (by decide) (by decide) (by decide) (by decide) (by decide) HT.out.1 HT.out.2.1 HT.out.2.2).mono ?_; rintro e w4 ⟨rfl, hw⟩; have HB3 := Lib.hid (below_then (HB2.out.alloc HB2.out.size _) (HB2.out.alloc HB2.out.size _).size hw); clear hw))
    go_ret
    exact ⟨by rw [T.out.1]; rfl, HB3.out⟩
end Go.Proofs.YtdgaflcnigljlaaGreatDoor
/-
  Contract of the library's Contains at rows of strings that a call owns. No further condition.
-/
namespace Go.Proofs.YtdgaflcnigljlaaGreatDoor
open Go.RowKit Go.Proofs Go.MapKept Go.Proofs.YtdgaflcnigljlaaGreatDoorW.PrintWords
set_option linter.unusedVariables false
theorem toList_inj' {a b : ByteArray} (h : a.toList = b.toList) : a = b := by
  rw [ByteArray.toList_eq, ByteArray.toList_eq] at h
  exact ByteArray.ext (Array.toList_inj.1 h)
theorem beq_yes {a b : ByteArray} (h : a = b) : (a.toList == b.toList) = true := by subst h; simp
theorem beq_no {a b : ByteArray} (h : ¬ a = b) : (a.toList == b.toList) = false := by
  rw [beq_eq_false_iff_ne]; exact fun e => h (toList_inj' e)
set_option maxRecDepth 20000 in
set_option maxHeartbeats 1000000 in
theorem indexs_c (l : List ByteArray) (s : ByteArray) (v : Value) (base : Nat) (w : World) (h : Hid (Own w base 9 1 v (strRows l))) (hl : l.length ≤ 1000000) :
    Calls Tryz.prog 202 #[v, .string s] w fun e w' => ∃ k : Int, e = .returned (.int .i64 k) ∧ Hid ((s ∈ l ∧ 0 ≤ k ∧ k ≤ 1000000) ∨ (s ∉ l ∧ k = -1)) ∧ w' = w := by
  obtain ⟨A, c, rfl, _⟩ := h.out.form
  obtain ⟨n, hn⟩ : ∃ n, (strRows l).length = n := ⟨_, rfl⟩
  have N2 : Hid (n = l.length) := Lib.hid (by rw [← hn]; simp [strRows])
  have n6 : n ≤ 1000000 := by have := N2.out; omega
  rw [hn] at h ⊢
  clear hn hl
  go_enter Tryz.func202, Tryz.ntmps202
  go_wp2_with fail
  go_loopw [8] (fun i wr => ∃ k : Nat, k ≤ n ∧ i = .int .i64 k ∧ wr = w ∧ Hid (∀ x ∈ l.take k, ¬ s = x)) (fun i _ => (n - intOf i).toNat)
  case atStart => exact ⟨0, by omega, rfl, rfl, Lib.hid (by simp)⟩
  case round =>
    obtain ⟨k, k1, rfl, rfl, HN⟩ := hrel
    by_cases hk : k < n
    · obtain ⟨x, hx⟩ : ∃ x, l[k]? = some x := ⟨_, List.getElem?_eq_getElem (by have := N2.out; omega)⟩
      have hr : (strRows l)[k]? = some #[.string x] := by simp [strRows, hx]
      obtain ⟨g, cap, he, _⟩ := h.out.cell hr
      simp only [Value.slice.injEq] at he
      obtain ⟨rfl, -, -⟩ := he
      have cl := h.out.at1 (g := g) rfl k _ hr
      have bl := (h.out.block g rfl).2
      have hk' : (k : Int) < n := by omega
      have HX := Lib.hid hx
      clear hr hx
      by_cases hs : s = x
      · have t1 := beq_yes hs
        have HS := Lib.hid hs
        clear hs
        go_wp2_with fail
        go_ret
        exact ⟨k, rfl, Lib.hid (.inl ⟨by rw [HS.out]; exact List.mem_of_getElem? HX.out, by omega, by omega⟩), rfl⟩
      · have t1 := beq_no hs
        have HS := Lib.hid hs
        clear hs
        go_wp2_with fail
        exact ⟨⟨k + 1, by omega, by go_num, trivial, Lib.hid (fun z hz => by
          rw [take_at HX.out] at hz
          rcases List.mem_append.1 hz with hz | hz
          · exact HN.out z hz
          · simp only [List.mem_singleton] at hz; subst hz; exact HS.out)⟩, by simp [intOf]; omega⟩
    · have NI : Hid (s ∉ l) := Lib.hid (fun hm => HN.out s (by rw [List.take_of_length_le (by have := N2.out; omega)]; exact hm) rfl)
      go_wp2_with fail
      go_ret
      exact ⟨-1, rfl, Lib.hid (.inr ⟨NI.out, rfl⟩), rfl⟩
def sameB (a b : ByteArray) : Bool := a.data.toList == b.data.toList
theorem sameB_iff {a b : ByteArray} : sameB a b = true ↔ a = b := by
  unfold sameB
  rw [beq_iff_eq]
  exact ⟨fun h => ByteArray.ext (Array.toList_inj.1 h), fun h => by rw [h]⟩
def vHas (l : List ByteArray) (s : ByteArray) : Bool := l.any fun x => sameB s x
theorem vHas_yes {l : List ByteArray} {s : ByteArray} (h : s ∈ l) : vHas l s = true := List.any_eq_true.2 ⟨s, h, sameB_iff.2 rfl⟩
theorem vHas_no {l : List ByteArray} {s : ByteArray} (h : s ∉ l) : vHas l s = false := by
  unfold vHas
  rw [List.any_eq_false]
  intro x hx hc
  rw [sameB_iff] at hc
  subst hc
  exact h hx
theorem containsS_c (l : List ByteArray) (s : ByteArray) (v : Value) (base : Nat) (w : World) (h : Hid (Own w base 9 1 v (strRows l))) (hl : l.length ≤ 1000000) :
    Calls Tryz.prog 159 #[v, .string s] w fun e w' => e = .returned (.bool (vHas l s)) ∧ w' = w := by
  obtain ⟨_, _, _, rfl⟩ := h.out.named
  go_enter Tryz.func159, Tryz.ntmps159
  go_wp2_with (first | (go_at_call 202; with_reducible refine (indexs_c l s _ base _ h hl).mono ?_; rintro e w1 ⟨k, rfl, HK, rfl⟩))
  go_ret
  refine ⟨?_, rfl⟩
  have e : decide (0 ≤ k) = vHas l s := by
    rcases HK.out with ⟨a, b, _⟩ | ⟨a, rfl⟩
    · rw [decide_eq_true b, vHas_yes a]
    · rw [vHas_no a]; rfl
  rw [← e]; rfl
end Go.Proofs.YtdgaflcnigljlaaGreatDoor
/-
  Contract of package ordo: the date on which a feast is, at a calendar that has it as a principal celebration. No further condition.
-/
namespace Go.Proofs.YtdgaflcnigljlaaGreatDoor
open Go.RowKit Go.Proofs Go.MapKept Go.Proofs.YtdgaflcnigljlaaGreatDoorW.PrintWords
set_option linter.unusedVariables false
/-- A day that does not bear a feast. -/
def vMiss (C : Cat) (E : EntI) (id : ByteArray) : Bool := (decide (E.kind = 1) || !sameB E.prin id) && (!vHas (vIds C E.com) id && !vHas (vIds C E.omi) id)
structure WhBox (w W : World) (y : Int) (en : Value) : Prop where
  bel : Below w.heap.size w W
  res : Blk W (w.heap.size + 1) #[.int .i64 0, .int .i64 0, .int .i64 0] 39
theorem WhBox.below {w W W2 : World} {y : Int} {en : Value} (h : WhBox w W y en) (hb : Below W.heap.size W W2) : WhBox w W2 y en := ⟨below_then h.bel h.bel.size hb, h.res.below hb⟩
set_option maxRecDepth 20000 in
set_option maxHeartbeats 2000000 in
theorem where_c (C : Cat) (y : Int) (l : List Mv) (N k : Nat) (en : Value) (us : List (Value × Value)) (base : Nat) (id : ByteArray) (w : World) (hE : Hid (EnRes w base C y l N en us)) (hN : N ≤ 400) (hk : k < N) (h1 : Hid ((vEnI C y l k).kind ≠ 1)) (h2 : Hid ((vEnI C y l k).prin = id)) (hm : Hid (∀ j, j < k → vMiss C (vEnI C y l j) id = true))
    (hs : Hid (∀ j, j < N → (vEnI C y l j).com.length ≤ 1000 ∧ (vEnI C y l j).omi.length ≤ 1000)) :
    Calls Tryz.prog 114 #[.agg #[.int .i64 y, en], .string id] w fun e w' => e = .returned (.tuple #[.agg #[.int .i64 (vYear (vFirst y + k)), .int .i64 (mMon (vFirst y + k)), .int .i64 (mDay (vFirst y + k))], .bool true]) ∧ Below w.heap.size w w' := by
  obtain ⟨ge, ce, rfl⟩ : ∃ ge ce, en = .slice (some ⟨ge, 0, none⟩) N ce := by
    obtain ⟨g', cap, he, _⟩ := hE.out.out.cell (k := 0) (List.getElem?_eq_getElem (by rw [enRows_len, hE.out.len]; omega))
    exact ⟨g', cap, by rw [he, enRows_len, hE.out.len]⟩
  have HB : Hid (WhBox w ((w.alloc (.cells #[.int .i64 y, .slice (some ⟨ge, 0, none⟩) N ce] 31)).alloc (.cells #[.int .i64 0, .int .i64 0, .int .i64 0] 39)) y (.slice (some ⟨ge, 0, none⟩) N ce)) := Lib.hid ⟨((Below.refl _ _).alloc (Nat.le_refl _) _).alloc (by simp) _, Blk.new2 _ _ _ _⟩
  go_enter Tryz.func114, Tryz.ntmps114
  go_wp2_with fail
  generalize ((w.alloc (.cells #[.int .i64 y, .slice (some ⟨ge, 0, none⟩) N ce] 31)).alloc (.cells #[.int .i64 0, .int .i64 0, .int .i64 0] 39)) = W0 at *
  go_loopw [11] (fun i wr => ∃ j : Nat, j ≤ k ∧ i = .int .i64 j ∧ Hid (WhBox w wr y (.slice (some ⟨ge, 0, none⟩) N ce))) (fun i _ => (N - intOf i).toNat)
  case atStart => exact ⟨0, by omega, rfl, HB⟩
  case round =>
    clear HB
    obtain ⟨j, j1, rfl, HB⟩ := hrel
    have jN : j < N := by omega
    obtain ⟨u, hu⟩ : ∃ u, us[j]? = some u := ⟨_, List.getElem?_eq_getElem (by have := hE.out.len; omega)⟩
    have H2 := hE.out.ins j u hu
    obtain ⟨a, n, c, a', n', c', rfl⟩ := H2.form
    obtain ⟨g', cap, he, _, glt, _, hc⟩ := (hE.out.below HB.out.bel).out.cell (enRows_at hu)
    simp only [Value.slice.injEq, Option.some.injEq, Addr.mk.injEq, and_true] at he
    obtain ⟨rfl, -, -⟩ := he
    have r0 : wr.cell? ⟨ge, j * 14, none⟩ = some (.int .i64 (vYear (vFirst y + j))) := (hc 0 (by omega)).1
    have r1 : wr.cell? ⟨ge, j * 14 + 1, none⟩ = some (.int .i64 (mMon (vFirst y + j))) := (hc 1 (by omega)).1
    have r2 : wr.cell? ⟨ge, j * 14 + 2, none⟩ = some (.int .i64 (mDay (vFirst y + j))) := (hc 2 (by omega)).1
    have r3 : wr.cell? ⟨ge, j * 14 + 3, none⟩ = some (.int .i64 ((vFirst y + j) % 7)) := (hc 3 (by omega)).1
    have r4 : wr.cell? ⟨ge, j * 14 + 4, none⟩ = some (.string (vSea C y (vFirst y + j)).id) := (hc 4 (by omega)).1
    have r5 : wr.cell? ⟨ge, j * 14 + 5, none⟩ = some (.int .i64 (vWeek C y (vFirst y + j))) := (hc 5 (by omega)).1
    have r6 : wr.cell? ⟨ge, j * 14 + 6, none⟩ = some (.int .i64 (vEnI C y l j).kind) := (hc 6 (by omega)).1
    have r7 : wr.cell? ⟨ge, j * 14 + 7, none⟩ = some (.string (vEnI C y l j).prin) := (hc 7 (by omega)).1
    have r8 : wr.cell? ⟨ge, j * 14 + 8, none⟩ = some (.int .i64 (vEnI C y l j).rank) := (hc 8 (by omega)).1
    have r9 : wr.cell? ⟨ge, j * 14 + 9, none⟩ = some (.int .i64 (vEnI C y l j).fy) := (hc 9 (by omega)).1
    have r10 : wr.cell? ⟨ge, j * 14 + 10, none⟩ = some (.int .i64 (vEnI C y l j).fm) := (hc 10 (by omega)).1
    have r11 : wr.cell? ⟨ge, j * 14 + 11, none⟩ = some (.int .i64 (vEnI C y l j).fd) := (hc 11 (by omega)).1
    have r12 : wr.cell? ⟨ge, j * 14 + 12, none⟩ = some (.slice a n c) := (hc 12 (by omega)).1
    have r13 : wr.cell? ⟨ge, j * 14 + 13, none⟩ = some (.slice a' n' c') := (hc 13 (by omega)).1
    have HT := Lib.hid (H2.below HB.out.bel)
    have LS := hs.out j jN
    have S1 : Hid ((vIds C (vEnI C y l j).com).length ≤ 1000000) := Lib.hid (by simp [vIds]; omega)
    have S2 : Hid ((vIds C (vEnI C y l j).omi).length ≤ 1000000) := Lib.hid (by simp [vIds]; omega)
    have jN' : (j : Int) < N := by omega
    clear hc hu H2 LS
    by_cases hj : j = k
    · subst hj
      have t1 : ((vEnI C y l j).kind != 1) = true := by simp; exact h1.out
      have t2 := beq_yes h2.out
      generalize vEnI C y l j = E at *
      have z0 : wr.cell? ⟨w.heap.size + 1, 0, none⟩ = some (.int .i64 0) := HB.out.res.cell 0
      have z1 : wr.cell? ⟨w.heap.size + 1, 1, none⟩ = some (.int .i64 0) := HB.out.res.cell 1
      have z2 : wr.cell? ⟨w.heap.size + 1, 2, none⟩ = some (.int .i64 0) := HB.out.res.cell 2
      have f0 := HB.out.res.frozen 0
      have f1 := HB.out.res.frozen 1
      have f2 := HB.out.res.frozen 2
      have zl := HB.out.res.lt
      go_wp2_with fail
      refine bodyPost_ret (results_ct rfl _ _ (w.heap.size + 1) 39 #[.int .i64 (vYear (vFirst y + j)), .int .i64 (mMon (vFirst y + j)), .int .i64 (mDay (vFirst y + j))] (0, 0) _ rfl ((((HB.out.res.put 0 _ rfl).put 1 _ rfl).put 2 _ rfl).alloc _) Tryz.underlying39 rfl (by kernel_rfl)) rfl ⟨rfl, ?_⟩
      have hb := ((HB.out.bel.setCell (Nat.le_succ _) (p := ⟨w.heap.size + 1, 0, none⟩) (.int .i64 (vYear (vFirst y + j)))).setCell (Nat.le_succ _) (p := ⟨w.heap.size + 1, 1, none⟩) (.int .i64 (mMon (vFirst y + j)))).setCell (Nat.le_succ _) (p := ⟨w.heap.size + 1, 2, none⟩) (.int .i64 (mDay (vFirst y + j)))
      exact hb.alloc hb.size _
    · have HM := hm.out j (by omega)
      have jk : j + 1 ≤ k := by omega
      generalize vEnI C y l j = E at *
      simp only [vMiss, Bool.and_eq_true, Bool.or_eq_true, decide_eq_true_eq, Bool.not_eq_true'] at HM
      obtain ⟨m1, m2, m3⟩ := HM
      have M2 := Lib.hid m2
      have M3 := Lib.hid m3
      have HA := Lib.hid (HB.out.below ((Below.refl _ _).alloc (Nat.le_refl _) (.cells (eC (vYear (vFirst y + j)) (mMon (vFirst y + j)) (mDay (vFirst y + j)) ((vFirst y + j) % 7) (vSea C y (vFirst y + j)).id (vWeek C y (vFirst y + j)) E.kind E.prin E.rank E.fy E.fm E.fd (.slice a n c) (.slice a' n' c')) 42)))
      have HTA := Lib.hid (HT.out.below ((Below.refl wr.heap.size wr).alloc (Nat.le_refl _) (.cells (eC (vYear (vFirst y + j)) (mMon (vFirst y + j)) (mDay (vFirst y + j)) ((vFirst y + j) % 7) (vSea C y (vFirst y + j)).id (vWeek C y (vFirst y + j)) E.kind E.prin E.rank E.fy E.fm E.fd (.slice a n c) (.slice a' n' c')) 42)))
      clear m2 m3
      simp only [eC] at HA HTA
      by_cases h0 : E.kind = 1
      · have t1 : (E.kind != 1) = false := by simp [h0]
        clear m1 h0
        go_wp2_with (first | (go_at_call 159; with_reducible refine (containsS_c (vIds C E.com) id _ base _ (Lib.hid HTA.out.oc) S1.out).mono ?_; rintro e w6 ⟨rfl, rfl⟩; rw [M2.out]) | (go_at_call 159; with_reducible refine (containsS_c (vIds C E.omi) id _ base _ (Lib.hid HTA.out.oo) S2.out).mono ?_; rintro e w7 ⟨rfl, rfl⟩; rw [M3.out]))
        exact ⟨⟨j + 1, by omega, by go_num, HA⟩, by simp [intOf]; omega⟩
      · have t1 : (E.kind != 1) = true := by simp [h0]
        have t2 : (E.prin.toList == id.toList) = false := beq_no (by
          rcases m1 with m1 | m1
          · exact absurd m1 h0
          · intro e; rw [sameB_iff.2 e] at m1; cases m1)
        clear m1 h0
        go_wp2_with (first | (go_at_call 159; with_reducible refine (containsS_c (vIds C E.com) id _ base _ (Lib.hid HTA.out.oc) S1.out).mono ?_; rintro e w6 ⟨rfl, rfl⟩; rw [M2.out]) | (go_at_call 159; with_reducible refine (containsS_c (vIds C E.omi) id _ base _ (Lib.hid HTA.out.oo) S2.out).mono ?_; rintro e w7 ⟨rfl, rfl⟩; rw [M3.out]))
        exact ⟨⟨j + 1, by omega, by go_num, HA⟩, by simp [intOf]; omega⟩
end Go.Proofs.YtdgaflcnigljlaaGreatDoor
/-
  Contract of package query: the calendar of a catalogue that has one. No further condition.
-/
namespace Go.Proofs.YtdgaflcnigljlaaGreatDoor
open Go.RowKit Go.Proofs Go.MapKept Go.Proofs.YtdgaflcnigljlaaGreatDoorW.PrintWords
set_option linter.unusedVariables false
structure CqBox (w W : World) (C : Cat) (A1 : Option Addr) (n1 c1 : Nat) (A2 : Option Addr) (n2 c2 : Nat) : Prop where
  bel : Below w.heap.size w W
  box : Blk W w.heap.size #[.int .i64 C.free, .slice A1 n1 c1, .slice A2 n2 c2] 25
  res : Blk W (w.heap.size + 1) #[.int .i64 0, .slice none 0 0] 31
theorem CqBox.below {w W W2 : World} {C : Cat} {A1 : Option Addr} {n1 c1 : Nat} {A2 : Option Addr} {n2 c2 : Nat} (h : CqBox w W C A1 n1 c1 A2 n2 c2) (hb : Below W.heap.size W W2) : CqBox w W2 C A1 n1 c1 A2 n2 c2 := ⟨below_then h.bel h.bel.size hb, h.box.below hb, h.res.below hb⟩
set_option maxRecDepth 20000 in
set_option maxHeartbeats 1000000 in
theorem calendar_c (C : Cat) (A1 : Option Addr) (n1 c1 : Nat) (A2 : Option Addr) (n2 c2 : Nat) (y : Int) (l : List Mv) (w : World) (ht : Hid (Tabs w)) (hI : Hid (CatIn w C A1 n1 c1 A2 n2 c2)) (hG : Hid C.Good) (y1 : 1583 ≤ y) (y2 : y ≤ 1000000000) (hM : Hid (vMoves C y = some l)) :
    Calls Tryz.prog 113 #[.agg #[.int .i64 C.free, .slice A1 n1 c1, .slice A2 n2 c2], .int .i64 y] w fun e w' => ∃ en us, e = .returned (.agg #[.int .i64 y, en]) ∧ EnRes w' w.heap.size C y l (vDays y) en us ∧ Below w.heap.size w w' := by
  have HB : Hid (CqBox w ((w.alloc (.cells #[.int .i64 C.free, .slice A1 n1 c1, .slice A2 n2 c2] 25)).alloc (.cells #[.int .i64 0, .slice none 0 0] 31)) C A1 n1 c1 A2 n2 c2) := Lib.hid ⟨((Below.refl _ _).alloc (Nat.le_refl _) _).alloc (by simp) _, (Blk.new _ _ _).alloc _, Blk.new2 _ _ _ _⟩
  go_enter Tryz.func113, Tryz.ntmps113
  go_wp2_with fail
  generalize ((w.alloc (.cells #[.int .i64 C.free, .slice A1 n1 c1, .slice A2 n2 c2] 25)).alloc (.cells #[.int .i64 0, .slice none 0 0] 31)) = W0 at *
  refine (build_c C A1 n1 c1 A2 n2 c2 y _ (Lib.hid (ht.out.below HB.out.bel)) (Lib.hid (hI.out.below HB.out.bel)) hG y1 y2).mono ?_
  rintro e w1 ⟨(⟨h1, rfl⟩ | ⟨l', en, us, h1, rfl, h2⟩), hb⟩
  · rw [hM.out] at h1; cases h1
  · rw [hM.out] at h1
    cases h1
    obtain ⟨ea, em, ec, rfl⟩ := h2.out.named
    have HN := Lib.hid (HB.out.below hb)
    have HE := Lib.hid (h2.less HB.out.bel.size)
    clear hb h2
    have z0 : w1.cell? ⟨w.heap.size + 1, 0, none⟩ = some (.int .i64 0) := HN.out.res.cell 0
    have z1 : w1.cell? ⟨w.heap.size + 1, 1, none⟩ = some (.slice none 0 0) := HN.out.res.cell 1
    have f0 := HN.out.res.frozen 0
    have f1 := HN.out.res.frozen 1
    have zl := HN.out.res.lt
    go_wp2_with (first | (go_at_call 51; with_reducible refine (fail0_c _ _).mono ?_; rintro e w3 ⟨rfl, rfl⟩))
    have G := (gs_set w1 (w.heap.size + 1) 0 (.int .i64 y)).trans (gs_set _ _ 1 (.slice ea em ec))
    have hb := HN.out.bel.grown G HN.out.bel.size (fun k e => by cases e; exact Nat.le_succ _)
    refine bodyPost_ret (results_cell_row rfl _ _ (w.heap.size + 1) 31 #[.int .i64 y, .slice ea em ec] (0, 0) _ rfl (((HN.out.res.put 0 _ rfl).put 1 _ rfl).alloc _) Tryz.underlying31 rfl (by kernel_rfl)) rfl ?_
    exact ⟨_, us, rfl, (HE.out.kept G HN.out.res (by decide) (by decide)).below ((Below.refl _ _).alloc (Nat.le_refl _) _), hb.alloc hb.size _⟩
end Go.Proofs.YtdgaflcnigljlaaGreatDoor
/-
  Contract of package query: the answer for the date of a feast of the built-in catalogue in the year 2024, from what its calendar is. No further condition.
-/
namespace Go.Proofs.YtdgaflcnigljlaaGreatDoor
open Go.RowKit Go.Proofs Go.MapKept Go.Proofs.YtdgaflcnigljlaaGreatDoorW.PrintWords
set_option linter.unusedVariables false
@[reducible] def vAnn : ByteArray := ⟨#[97, 110, 110, 117, 110, 99, 105, 97, 116, 105, 111, 110]⟩
/-- What is to be known of the built-in catalogue's calendar of 2024. -/
structure Bi24 (l : List Mv) (k : Nat) : Prop where
  good : biCat.Good
  mv : vMoves biCat 2024 = some l
  lt : k < vDays 2024
  kind : (vEnI biCat 2024 l k).kind ≠ 1
  prin : (vEnI biCat 2024 l k).prin = vAnn
  miss : ∀ j, j < k → vMiss biCat (vEnI biCat 2024 l j) vAnn = true
  date : vYear (vFirst 2024 + k) = 2024 ∧ mMon (vFirst 2024 + k) = 4 ∧ mDay (vFirst 2024 + k) = 8
@[reducible] def qW : Array Value := #[.int .i64 6, .int .i64 0, .int .i64 0, .int .i64 2024, .int .i64 0, .int .i64 0, .int .i64 0, .string vAnn]
theorem set3_bel {w V : World} {q : Nat} {a b c : Value} (hb : Below w.heap.size w V) (hq : w.heap.size < q) : Below w.heap.size w (((V.setCell ⟨q, 0, none⟩ a).setCell ⟨q, 1, none⟩ b).setCell ⟨q, 2, none⟩ c) :=
  ((hb.setCell (Nat.le_of_lt hq) _).setCell (Nat.le_of_lt hq) _).setCell (Nat.le_of_lt hq) _
set_option maxRecDepth 20000 in
set_option maxHeartbeats 2000000 in
theorem qwhere_c (l : List Mv) (k : Nat) (w : World) (ht : Hid (Tabs w)) (hp : Hid (PowIn w)) (hB4 : Hid (Bi24 l k)) : Calls Tryz.prog 78 #[.agg #[.int .i64 6, .int .i64 0, .int .i64 0, .int .i64 2024, .int .i64 0, .int .i64 0, .int .i64 0, .string ⟨#[97, 110, 110, 117, 110, 99, 105, 97, 116, 105, 111, 110]⟩]] w fun e w' => e = .returned (.string ⟨#[50, 48, 50, 52, 32, 52, 32, 56]⟩) ∧ Below w.heap.size w w' := by
  have HB : Hid (Below w.heap.size w (w.alloc (.cells #[.int .i64 6, .int .i64 0, .int .i64 0, .int .i64 2024, .int .i64 0, .int .i64 0, .int .i64 0, .string ⟨#[97, 110, 110, 117, 110, 99, 105, 97, 116, 105, 111, 110]⟩] 72))) := Lib.hid ((Below.refl _ _).alloc (Nat.le_refl _) _)
  have BB : Hid (Blk (w.alloc (.cells #[.int .i64 6, .int .i64 0, .int .i64 0, .int .i64 2024, .int .i64 0, .int .i64 0, .int .i64 0, .string ⟨#[97, 110, 110, 117, 110, 99, 105, 97, 116, 105, 111, 110]⟩] 72)) w.heap.size #[.int .i64 6, .int .i64 0, .int .i64 0, .int .i64 2024, .int .i64 0, .int .i64 0, .int .i64 0, .string ⟨#[97, 110, 110, 117, 110, 99, 105, 97, 116, 105, 111, 110]⟩] 72) := Lib.hid (Blk.new _ _ _)
  have T := Lib.hid txt24
  have HT : Hid ((vItoa 2024).size ≤ 100 ∧ (vItoa 4).size ≤ 100 ∧ (vItoa 8).size ≤ 100) := Lib.hid (by obtain ⟨_, a, _, _, _, b, c⟩ := txt24; omega)
  have LN : Hid (∀ j, j < vDays 2024 → (vEnI biCat 2024 l j).com.length ≤ 1000 ∧ (vEnI biCat 2024 l j).omi.length ≤ 1000) := Lib.hid (fun j _ => by
    obtain ⟨_, _, a, b⟩ := en_ok hB4.out.good 2024 l j
    exact ⟨by omega, by omega⟩)
  have N4 : vDays 2024 ≤ 400 := by have := lp01 (vLeap 2024); unfold vDays; omega
  have KL := hB4.out.lt
  have DT := Lib.hid hB4.out.date
  go_enter Tryz.func78, Tryz.ntmps78
  go_upto_region 1 with fail
  generalize w.alloc (.cells #[.int .i64 6, .int .i64 0, .int .i64 0, .int .i64 2024, .int .i64 0, .int .i64 0, .int .i64 0, .string ⟨#[97, 110, 110, 117, 110, 99, 105, 97, 116, 105, 111, 110]⟩] 72) = W0 at *
  have bw : ∀ V, Below W0.heap.size W0 V → Below w.heap.size w V := fun V h => below_then HB.out HB.out.size h
  have hB : Below W0.heap.size W0 W0.drew := (Below.refl _ _).drew
  have hA := ((Below.refl W0.heap.size W0).alloc (Nat.le_refl _) (.cells #[.int .i64 0, .int .i64 0, .int .i64 0] 39)).drew
  have HQA := (Blk.new W0 #[.int .i64 0, .int .i64 0, .int .i64 0] 39).drew
  have HC : ∀ V, Below W0.heap.size W0 V → V.cell? ⟨w.heap.size, 3, none⟩ = some (.int .i64 2024) ∧ V.cell? ⟨w.heap.size, 7, none⟩ = some (.string ⟨#[97, 110, 110, 117, 110, 99, 105, 97, 116, 105, 111, 110]⟩) := fun V h => ⟨(BB.out.below h).cell 3, (BB.out.below h).cell 7⟩
  obtain ⟨x3, x7⟩ := HC _ (Below.refl _ _)
  have wl : w.heap.size < W0.heap.size := BB.out.lt
  go_cut [3, 4] (fun v3 v4 wx => ∃ q, v3 = .pointer (some ⟨q, 0, none⟩) ∧ v4 = .bool true ∧ Hid (Below w.heap.size w wx) ∧ Hid (Blk wx q #[.int .i64 2024, .int .i64 4, .int .i64 8] 39))
  case first =>
    go_region_held3 (fun w' => w'.cell? ⟨w.heap.size, 3, none⟩ = some (.int .i64 2024) ∧ w'.cell? ⟨w.heap.size, 7, none⟩ = some (.string ⟨#[97, 110, 110, 117, 110, 99, 105, 97, 116, 105, 111, 110]⟩))
      (first
        | (with_reducible exact HC _ hB)
        | (with_reducible exact HC _ hA)
        | (with_reducible exact HC _ (hB.alloc hB.size _))
        | (simp only [cell_set_ne hqe]; with_reducible exact HC _ hB))
      (first
        | (go_at_call 56; (with_reducible refine (bicat_c _).mono ?_); rintro e w1 ⟨g1, g2, rfl, hci, hb1⟩; have HI := Lib.hid hci; clear hci; (first | (with_reducible replace hB := hB.trans (hb1.mono hB.size)) | (have hq := HQA.below hb1; have hql := wl; have hqe := Nat.ne_of_lt wl; with_reducible replace hB := hA.trans (hb1.mono hA.size))))
        | (go_at_call 113; (first | with_reducible refine (calendar_c biCat _ 8 8 _ 25 25 2024 l _ (Lib.hid (ht.out.below (bw _ hB))) HI (Lib.hid hB4.out.good) (by decide) (by decide) (Lib.hid hB4.out.mv)).mono ?_ | with_reducible refine (calendar_c biCat _ 8 8 _ 25 25 2024 l _ (Lib.hid (ht.out.below (bw _ (hB.alloc hB.size _)))) (Lib.hid (HI.out.below ((Below.refl _ _).alloc (Nat.le_refl _) _))) (Lib.hid hB4.out.good) (by decide) (by decide) (Lib.hid hB4.out.mv)).mono ?_); rintro e w2 ⟨en, us, rfl, hen, hb2⟩; have HE := Lib.hid hen; clear hen; (first | (with_reducible replace hB := hB.trans (hb2.mono hB.size); (try with_reducible replace hq := hq.below hb2)) | (have hq := (Blk.new _ #[.int .i64 0, .int .i64 0, .int .i64 0] 39).below hb2; have hql := Nat.lt_of_lt_of_le wl hB.size; have hqe := Nat.ne_of_lt (Nat.lt_of_lt_of_le wl hB.size); replace hB := (hB.alloc hB.size _).trans (hb2.mono (hB.alloc hB.size _).size))))
        | (go_at_call 114; (first | with_reducible refine (where_c biCat 2024 l (vDays 2024) k _ _ _ _ _ HE N4 KL (Lib.hid hB4.out.kind) (Lib.hid hB4.out.prin) (Lib.hid hB4.out.miss) LN).mono ?_ | with_reducible refine (where_c biCat 2024 l (vDays 2024) k _ _ _ _ _ (Lib.hid (HE.out.below ((Below.refl _ _).alloc (Nat.le_refl _) _))) N4 KL (Lib.hid hB4.out.kind) (Lib.hid hB4.out.prin) (Lib.hid hB4.out.miss) LN).mono ?_); rintro e w3 ⟨rfl, hb3⟩; rw [DT.out.1, DT.out.2.1, DT.out.2.2]; (first | (with_reducible replace hB := hB.trans (hb3.mono hB.size); (try with_reducible replace hq := hq.below hb3)) | (have hq := (Blk.new _ #[.int .i64 0, .int .i64 0, .int .i64 0] 39).below hb3; have hql := Nat.lt_of_lt_of_le wl hB.size; have hqe := Nat.ne_of_lt (Nat.lt_of_lt_of_le wl hB.size); replace hB := (hB.alloc hB.size _).trans (hb3.mono (hB.alloc hB.size _).size))); (try (have q0 := hq.cell 0; have q1 := hq.cell 1; have q2 := hq.cell 2; have f0 := hq.frozen 0; have f1 := hq.frozen 1; have f2 := hq.frozen 2))))
    all_goals (go_wp2_with fail)
    all_goals go_meet
    · exact ⟨_, rfl, rfl, Lib.hid (bw _ (hB.alloc hB.size _)), Lib.hid (Blk.new _ _ _)⟩
    · exact ⟨_, rfl, rfl, Lib.hid (set3_bel (bw _ hB) hql), Lib.hid (((hq.put 0 _ rfl).put 1 _ rfl).put 2 _ rfl)⟩
    · exact ⟨_, rfl, rfl, Lib.hid (set3_bel (bw _ hB) hql), Lib.hid (((hq.put 0 _ rfl).put 1 _ rfl).put 2 _ rfl)⟩
    · exact ⟨_, rfl, rfl, Lib.hid (set3_bel (bw _ hB) hql), Lib.hid (((hq.put 0 _ rfl).put 1 _ rfl).put 2 _ rfl)⟩
  case rest =>
    clear bw hB hA HQA HC x3 x7 wl
    obtain ⟨q, rfl, rfl, HB2, HQ⟩ := hcut
    have z0 : wc.cell? ⟨q, 0, none⟩ = some (.int .i64 2024) := HQ.out.cell 0
    have z1 : wc.cell? ⟨q, 1, none⟩ = some (.int .i64 4) := HQ.out.cell 1
    have z2 : wc.cell? ⟨q, 2, none⟩ = some (.int .i64 8) := HQ.out.cell 2
    go_wp2_with (first | (go_at_call 109; with_reducible refine (dtext_c 2024 4 8 _ (Lib.hid (hp.out.below HB2.out)) (by decide) (by decide) (by decide) (by decide) (by decide) (by decide) HT.out.1 HT.out.2.1 HT.out.2.2).mono ?_; rintro e w4 ⟨rfl, hw⟩; have HB3 := Lib.hid (below_then HB2.out HB2.out.size hw); clear hw))
    go_ret
    exact ⟨by rw [T.out.2.2.2.2.1]; rfl, HB3.out⟩
end Go.Proofs.YtdgaflcnigljlaaGreatDoor
/-
  Contracts of reference 17: the check of a catalogue. At all catalogues of few seasons and feasts. No further condition.
-/
namespace Go.Proofs.YtdgaflcnigljlaaGreatDoor
open Go.RowKit Go.Proofs Go.Proofs.YtdgaflcnigljlaaGreatDoorW.PrintWords
set_option linter.unusedVariables false
structure CkB (w W : World) (C : Cat) (A1 : Option Addr) (n1 c1 : Nat) (A2 : Option Addr) (n2 c2 : Nat) (v : Value) (l : List ByteArray) : Prop where
  bel : Below w.heap.size w W
  box : Blk W w.heap.size #[.int .i64 C.free, .slice A1 n1 c1, .slice A2 n2 c2] 25
  own : Own W (w.heap.size + 1) 9 1 v (strRows l)
section
variable {w W W2 : World} {C : Cat} {A1 A2 : Option Addr} {n1 c1 n2 c2 : Nat} {v v1 : Value} {l : List ByteArray} {s : ByteArray}
theorem CkB.below (h : CkB w W C A1 n1 c1 A2 n2 c2 v l) (hb : Below W.heap.size W W2) : CkB w W2 C A1 n1 c1 A2 n2 c2 v l := ⟨below_then h.bel h.bel.size hb, h.box.below hb, h.own.below hb⟩
theorem CkB.alloc (h : CkB w W C A1 n1 c1 A2 n2 c2 v l) (o : Obj) : CkB w (W.alloc o) C A1 n1 c1 A2 n2 c2 v l := h.below ((Below.refl _ _).alloc (Nat.le_refl _) o)
theorem CkB.new (w : World) (C : Cat) (A1 : Option Addr) (n1 c1 : Nat) (A2 : Option Addr) (n2 c2 : Nat) : CkB w (w.alloc (.cells #[.int .i64 C.free, .slice A1 n1 c1, .slice A2 n2 c2] 25)) C A1 n1 c1 A2 n2 c2 (.slice none 0 0) [] :=
  ⟨(Below.refl _ _).alloc (Nat.le_refl _) _, Blk.new _ _ _, Own.nil _ _ _ _⟩
theorem CkB.app (h : CkB w W C A1 n1 c1 A2 n2 c2 v l) (ho : Own W2 (w.heap.size + 1) 9 1 v1 (strRows l ++ [#[.string s]])) (hb : Below (w.heap.size + 1) W W2) : CkB w W2 C A1 n1 c1 A2 n2 c2 v1 (l ++ [s]) :=
  ⟨h.bel.trans (hb.mono (Nat.le_succ _)), (hb.block _ (Nat.lt_succ_self _)).trans h.box, by rw [strRows_snoc]; exact ho⟩
theorem CkB.siz (h : CkB w W C A1 n1 c1 A2 n2 c2 v l) : w.heap.size + 1 ≤ W.heap.size := h.box.lt
end
theorem good_iff {C : Cat} (h8 : C.seas.length ≤ 8) (h31 : C.feas.length ≤ 31) : C.Good ↔ (0 ≤ C.free ∧ C.free ≤ 9) ∧ 1 ≤ C.seas.length ∧ (∀ s ∈ C.seas, s.Ok) ∧ (∀ s ∈ C.feas, s.Ok) ∧ C.ids.Nodup :=
  ⟨fun h => ⟨⟨h.f1, h.f2⟩, h.n1, h.sea, h.fea, h.ids⟩, fun h => ⟨h.1.1, h.1.2, h.2.1, h8, h31, h.2.2.1, h.2.2.2.1, h.2.2.2.2⟩⟩
theorem all_take {α : Type} {p : α → Prop} {l : List α} {k : Nat} {s : α} (h : l[k]? = some s) (ha : ∀ x ∈ l.take k, p x) (hs : p s) : ∀ x ∈ l.take (k + 1), p x := by
  intro x hx
  rw [List.take_add_one, h] at hx
  rcases List.mem_append.1 hx with hx | hx
  · exact ha x hx
  · simp at hx; rw [hx]; exact hs
set_option maxRecDepth 20000 in
set_option maxHeartbeats 1000000 in
theorem rcheck_c (C : Cat) (A1 : Option Addr) (n1 c1 : Nat) (A2 : Option Addr) (n2 c2 : Nat) (w : World) (hI : Hid (CatIn w C A1 n1 c1 A2 n2 c2)) (h8 : Hid (C.seas.length ≤ 8)) (h31 : Hid (C.feas.length ≤ 31)) :
    Calls Tryz.prog 24 #[.agg #[.int .i64 C.free, .slice A1 n1 c1, .slice A2 n2 c2]] w fun e w' => e = .returned (.bool (pB C.Good)) ∧ Below w.heap.size w w' := by
  have FF := Lib.hid (fun b : Bool => show (b = true ↔ _) → Ending.returned (.bool b) = .returned (.bool (pB C.Good)) from fun h => ret_pB (h.trans (good_iff h8.out h31.out).symm))
  have HK := Lib.hid (CkB.new w C A1 n1 c1 A2 n2 c2)
  have g2 : n1 ≤ 8 := by have := h8.out; have := hI.out.e1; omega
  have g3 : n2 ≤ 31 := by have := h31.out; have := hI.out.e2; omega
  have f4 : decide (20 < (n1 : Int)) = false := by simp; omega
  have f5 : decide (400 < (n2 : Int)) = false := by simp; omega
  have l1 := hI.out.l1
  have l2 := hI.out.l2
  by_cases hf : 0 ≤ C.free ∧ C.free ≤ 9
  · by_cases g1 : 1 ≤ n1
    · have f1 : decide (C.free < 0) = false := by simp; omega
      have f2 : decide (9 < C.free) = false := by simp; omega
      have f3 : decide ((n1 : Int) < 1) = false := by simp; omega
      have P1 := Lib.hid (show (0 ≤ C.free ∧ C.free ≤ 9) ∧ 1 ≤ C.seas.length from ⟨hf, by have := hI.out.e1; omega⟩)
      clear hf
      go_enter Tryz.func24, Tryz.ntmps24
      go_wp2
      go_loopw [3, 4] (fun o i wr => ∃ (k : Nat) (v : Value), v = o ∧ k ≤ n1 ∧ i = .int .i64 k ∧ Hid (CkB w wr C A1 n1 c1 A2 n2 c2 v ((C.seas.take k).map Sea.id)) ∧ Hid (∀ x ∈ C.seas.take k, x.Ok)) (fun _ i _ => (n1 - intOf i).toNat)
      case atStart => exact ⟨0, _, rfl, by omega, rfl, Lib.hid (by simpa using HK.out), Lib.hid (by simp)⟩
      case round =>
        clear HK
        obtain ⟨k, v, rfl, k1, rfl, HK, OKS⟩ := hrel
        by_cases hk : k < n1
        · obtain ⟨s, hs⟩ : ∃ s, C.seas[k]? = some s := ⟨_, List.getElem?_eq_getElem (by have := hI.out.e1; omega)⟩
          have TK := Lib.hid (take_map Sea.id hs)
          have SM : ((strRows ((C.seas.take k).map Sea.id)).length + 1) * 16 ≤ 140737488355328 := by have := hI.out.e1; simp [strRows]; omega
          have HM := Lib.hid (List.mem_of_getElem? hs)
          have AT := Lib.hid (fun ok : s.Ok => all_take hs OKS.out ok)
          obtain ⟨ad, ha, hr⟩ := (hI.out.sea.below HK.out.bel) k s.cells (by rw [List.getElem?_map, hs]; rfl)
          have HRR := Lib.hid hr
          obtain ⟨a0, a1, a2, a3, a4, a5, a6, a7, a8⟩ := RowIs.nine hr
          have plt := hr.lt rfl
          clear hr hs
          subst ha
          obtain ⟨⟨x0, x1, x2⟩, xx⟩ := HK.out.box.c3
          have blt := HK.out.box.lt
          by_cases ok : s.Ok
          · have PT := Lib.hid (pB_t ok)
            have AT2 := Lib.hid (AT.out ok)
            go_wp2_with (first | (go_at_call 46; with_reducible refine (rsea_c s _).mono ?_; rintro e w1 ⟨rfl, hw⟩; rw [PT.out]; replace HK := Lib.hid (HK.out.below hw); (replace HRR := Lib.hid (RowIs.below HRR.out hw)); clear hw a0 a1 a2 a3 a4 a5 a6 a7 a8 plt x0 x1 x2 xx blt; obtain ⟨⟨x0, x1, x2⟩, xx⟩ := HK.out.box.c3; have blt := HK.out.box.lt; obtain ⟨⟨a0, a1, a2, a3, a4, a5, a6, a7, a8⟩, plt⟩ := RowIs.nine2 HRR.out) | (at_builtin; refine own_app (w0 := w1) 40 9 rfl _ _ rfl Tryz.underlying40 info9 rfl (by decide) (by decide) _ rfl #[_] rfl rfl (by simp [Value.oneCell']) HK.out.own (Below.refl _ _) HK.out.siz SM ?_; intro v2 w6 ho hb2 hg hat; have HN := Lib.hid (HK.out.app ho hb2); clear ho hb2 hg hat))
            exact ⟨⟨k + 1, v2, rfl, by omega, by go_num, Lib.hid (by rw [← TK.out]; simpa using HN.out), AT2⟩, by simp [intOf]; omega⟩
          · have PT := Lib.hid (pB_f ok)
            go_wp2_with ((go_at_call 46; with_reducible refine (rsea_c s _).mono ?_; rintro e w1 ⟨rfl, hw⟩; rw [PT.out]; replace HK := Lib.hid (HK.out.below hw); clear hw))
            go_ret
            exact ⟨FF.out _ (by simp only [Bool.false_eq_true, false_iff]; exact fun h => ok (h.2.2.1 s HM.out)), HK.out.bel⟩
        · obtain rfl : n1 = k := by omega
          have OKA := Lib.hid (show ∀ x ∈ C.seas, x.Ok from by have := OKS.out; rwa [List.take_of_length_le (by have := hI.out.e1; omega)] at this)
          have TA := Lib.hid (show (C.seas.take n1).map Sea.id = C.seas.map Sea.id by rw [List.take_of_length_le (by have := hI.out.e1; omega)] <;> (try rfl))
          rw [TA.out] at HK
          clear TA k1 hk OKS
          obtain ⟨⟨x0, x1, x2⟩, xx⟩ := HK.out.box.c3
          have blt := HK.out.box.lt
          go_wp2_with fail
          clear x0 x1 x2 xx blt
          go_loopw [3, 5] (fun o i wr => ∃ (k : Nat) (v : Value), v = o ∧ k ≤ n2 ∧ i = .int .i64 k ∧ Hid (CkB w wr C A1 n1 c1 A2 n2 c2 v (C.seas.map Sea.id ++ (C.feas.take k).map Fea.id)) ∧ Hid (∀ x ∈ C.feas.take k, x.Ok)) (fun _ i _ => (n2 - intOf i).toNat)
          case atStart => exact ⟨0, _, rfl, by omega, rfl, Lib.hid (by simpa using HK.out), Lib.hid (by simp)⟩
          case round =>
            clear HK
            obtain ⟨k, v, rfl, k1, rfl, HK, OKS⟩ := hrel
            by_cases hk : k < n2
            · obtain ⟨s, hs⟩ : ∃ s, C.feas[k]? = some s := ⟨_, List.getElem?_eq_getElem (by have := hI.out.e2; omega)⟩
              have TK := Lib.hid (take_map Fea.id hs)
              have SM : ((strRows (C.seas.map Sea.id ++ (C.feas.take k).map Fea.id)).length + 1) * 16 ≤ 140737488355328 := by have := hI.out.e1; simp [strRows]; omega
              have HM := Lib.hid (List.mem_of_getElem? hs)
              have AT := Lib.hid (fun ok : s.Ok => all_take hs OKS.out ok)
              obtain ⟨ad, ha, hr⟩ := (hI.out.fea.below HK.out.bel) k s.cells (by rw [List.getElem?_map, hs]; rfl)
              have HRR := Lib.hid hr
              obtain ⟨a0, a1, a2, a3, a4, a5, a6, a7, a8⟩ := RowIs.nine hr
              have plt := hr.lt rfl
              clear hr hs
              subst ha
              obtain ⟨⟨x0, x1, x2⟩, xx⟩ := HK.out.box.c3
              have blt := HK.out.box.lt
              by_cases ok : s.Ok
              · have PT := Lib.hid (pB_t ok)
                have AT2 := Lib.hid (AT.out ok)
                go_wp2_with (first | (go_at_call 47; with_reducible refine (rfea_c s _).mono ?_; rintro e w1 ⟨rfl, hw⟩; rw [PT.out]; replace HK := Lib.hid (HK.out.below hw); (replace HRR := Lib.hid (RowIs.below HRR.out hw)); clear hw a0 a1 a2 a3 a4 a5 a6 a7 a8 plt x0 x1 x2 xx blt; obtain ⟨⟨x0, x1, x2⟩, xx⟩ := HK.out.box.c3; have blt := HK.out.box.lt; obtain ⟨⟨a0, a1, a2, a3, a4, a5, a6, a7, a8⟩, plt⟩ := RowIs.nine2 HRR.out) | (at_builtin; refine own_app (w0 := w1) 40 9 rfl _ _ rfl Tryz.underlying40 info9 rfl (by decide) (by decide) _ rfl #[_] rfl rfl (by simp [Value.oneCell']) HK.out.own (Below.refl _ _) HK.out.siz SM ?_; intro v2 w6 ho hb2 hg hat; have HN := Lib.hid (HK.out.app ho hb2); clear ho hb2 hg hat))
                exact ⟨⟨k + 1, v2, rfl, by omega, by go_num, Lib.hid (by rw [← TK.out, ← List.append_assoc]; exact HN.out), AT2⟩, by simp [intOf]; omega⟩
              · have PT := Lib.hid (pB_f ok)
                go_wp2_with ((go_at_call 47; with_reducible refine (rfea_c s _).mono ?_; rintro e w1 ⟨rfl, hw⟩; rw [PT.out]; replace HK := Lib.hid (HK.out.below hw); clear hw))
                go_ret
                exact ⟨FF.out _ (by simp only [Bool.false_eq_true, false_iff]; exact fun h => ok (h.2.2.2.1 s HM.out)), HK.out.bel⟩
            · obtain rfl : n2 = k := by omega
              have OKF := Lib.hid (show ∀ x ∈ C.feas, x.Ok from by have := OKS.out; rwa [List.take_of_length_le (by have := hI.out.e2; omega)] at this)
              have TA := Lib.hid (show C.seas.map Sea.id ++ (C.feas.take n2).map Fea.id = C.ids by rw [List.take_of_length_le (by have := hI.out.e2; omega)] <;> (try rfl))
              rw [TA.out] at HK
              clear TA k1 hk OKS
              obtain ⟨⟨x0, x1, x2⟩, xx⟩ := HK.out.box.c3
              have blt := HK.out.box.lt
              go_wp2_with fail
              clear x0 x1 x2 xx blt
              have IDN := Lib.hid (show (∀ (k : Nat), k < C.ids.length → ∃ a, C.ids[k]? = some a) from fun k h => ⟨_, List.getElem?_eq_getElem h⟩)
              have LEN : Hid (C.ids.length = n1 + n2) := Lib.hid (by have := hI.out.e1; have := hI.out.e2; unfold Cat.ids; simp; omega)
              obtain ⟨a00, h00⟩ := IDN.out 0 (by have := LEN.out; omega)
              obtain ⟨ga, ca, he, hcap⟩ : ∃ ga ca, v = .slice (some ⟨ga, 0, none⟩) (strRows C.ids).length ca ∧ (strRows C.ids).length ≤ ca := by
                obtain ⟨ga, ca, he, _, _, hcap, _⟩ := HK.out.own.cell (k := 0) (cs := #[.string a00]) (by simp [strRows, h00])
                exact ⟨ga, ca, he, hcap⟩
              obtain ⟨N, hN⟩ : ∃ N, (strRows C.ids).length = N := ⟨_, rfl⟩
              rw [hN] at he hcap
              have NL := Lib.hid (show C.ids.length = N by rw [← hN]; simp [strRows])
              clear hN h00 a00
              subst he
              have N40 : N ≤ 40 := by have := NL.out; have := LEN.out; omega
              clear LEN
              go_loopw [6] (fun i wr => ∃ k : Nat, k ≤ N ∧ i = .int .i64 k ∧ Hid (CkB w wr C A1 n1 c1 A2 n2 c2 (.slice (some ⟨ga, 0, none⟩) N ca) C.ids) ∧ Hid (C.ids.take k).Nodup) (fun i _ => (N - intOf i).toNat)
              case atStart => exact ⟨0, by omega, rfl, HK, Lib.hid (by simp)⟩
              case round =>
                clear HK
                obtain ⟨k, k1, rfl, HK, HN⟩ := hrel
                by_cases hk : k < N
                · obtain ⟨a, ha⟩ := IDN.out k (by have := NL.out; omega)
                  have HA := Lib.hid ha
                  clear ha
                  go_wp2
                  go_loopw [7] (fun j wr => ∃ m : Nat, m ≤ k ∧ j = .int .i64 m ∧ Hid (CkB w wr C A1 n1 c1 A2 n2 c2 (.slice (some ⟨ga, 0, none⟩) N ca) C.ids) ∧ Hid (∀ p b, p < m → C.ids[p]? = some b → b ≠ a)) (fun j _ => (k - intOf j).toNat)
                  case atStart => exact ⟨0, by omega, rfl, HK, Lib.hid (fun p b h => by omega)⟩
                  case round =>
                    clear HK
                    obtain ⟨m, m1, rfl, HK, HP⟩ := hrel
                    by_cases hm : m < k
                    · obtain ⟨b, hb⟩ := IDN.out m (by have := NL.out; omega)
                      have HBB := Lib.hid hb
                      have ca1 := HK.out.own.at1 (g := ga) rfl k (.string a) (by simp [strRows, HA.out])
                      have ca2 := HK.out.own.at1 (g := ga) rfl m (.string b) (by simp [strRows, hb])
                      have gl := (HK.out.own.block ga rfl).2
                      have i1 : (k : Int) < N := by omega
                      have i2 : (m : Int) < N := by omega
                      have i3 : (m : Int) < k := by omega
                      clear hb
                      by_cases e : a = b
                      · have eb : (a.toList == b.toList) = true := beq_yes e
                        have DUP := Lib.hid (show ¬ C.ids.Nodup from fun h => by
                          have h1 := List.getElem?_eq_some_iff.1 HA.out
                          have h2 := List.getElem?_eq_some_iff.1 HBB.out
                          have := List.pairwise_iff_getElem.1 h m k h2.1 h1.1 hm
                          rw [h1.2, h2.2] at this
                          exact this e.symm)
                        clear e
                        go_wp2_with fail
                        go_quiet (fail)
                        go_wp2_with fail
                        go_ret
                        exact ⟨FF.out _ (by simp only [Bool.false_eq_true, false_iff]; exact fun h => DUP.out h.2.2.2.2), below_drewN HK.out.bel _⟩
                      · have eb : (a.toList == b.toList) = false := beq_no e
                        have HP2 := Lib.hid (show ∀ p b, p < m + 1 → C.ids[p]? = some b → b ≠ a from fun p b' h1 h2 => by
                          by_cases q : p = m
                          · subst q; rw [HBB.out] at h2; cases h2; exact fun h => e h.symm
                          · exact HP.out p b' (by omega) h2)
                        clear e
                        go_wp2_with fail
                        go_quiet (fail)
                        go_wp2_with fail
                        exact ⟨⟨m + 1, by omega, by go_num, Lib.hid (HK.out.below (below_drewN (Below.refl _ _) _)), HP2⟩, by simp [intOf]; omega⟩
                    · obtain rfl : k = m := by omega
                      have HN2 := Lib.hid (show (C.ids.take (k + 1)).Nodup by
                        rw [List.take_add_one, HA.out, Option.toList_some, List.nodup_append]
                        refine ⟨HN.out, List.pairwise_singleton _ _, fun x hx z hz => ?_⟩
                        rw [List.mem_singleton] at hz
                        subst hz
                        obtain ⟨p, hp, e⟩ := List.getElem_of_mem hx
                        simp only [List.length_take] at hp
                        rw [List.getElem_take] at e
                        exact HP.out p x (by omega) (by rw [← e]; exact List.getElem?_eq_getElem (by omega)))
                      go_wp2_with fail
                      exact ⟨⟨k + 1, by omega, by go_num, HK, HN2⟩, by simp [intOf]; omega⟩
                · obtain rfl : N = k := by omega
                  have ND := Lib.hid (show C.ids.Nodup by have := HN.out; rwa [List.take_of_length_le (by have := NL.out; omega)] at this)
                  go_wp2_with fail
                  go_ret
                  exact ⟨FF.out _ (by simp only [true_iff]; exact ⟨P1.out.1, P1.out.2, OKA.out, OKF.out, ND.out⟩), HK.out.bel⟩
    · have f1 : decide (C.free < 0) = false := by simp; omega
      have f2 : decide (9 < C.free) = false := by simp; omega
      have f3 : decide ((n1 : Int) < 1) = true := by simp; omega
      have FN := Lib.hid (show ¬ (1 ≤ C.seas.length) by have := hI.out.e1; omega)
      clear hf
      go_enter Tryz.func24, Tryz.ntmps24
      go_wp2
      go_ret
      exact ⟨FF.out _ (by simp only [Bool.false_eq_true, false_iff]; exact fun h => FN.out h.2.1), HK.out.bel⟩
  · have FN := Lib.hid hf
    by_cases f0 : C.free < 0
    · have f1 : decide (C.free < 0) = true := by simpa using f0
      clear hf
      go_enter Tryz.func24, Tryz.ntmps24
      go_wp2
      go_ret
      exact ⟨FF.out _ (by simp only [Bool.false_eq_true, false_iff]; exact fun h => FN.out h.1), HK.out.bel⟩
    · have f1 : decide (C.free < 0) = false := by simpa using f0
      have f2 : decide (9 < C.free) = true := by simp; omega
      clear hf
      go_enter Tryz.func24, Tryz.ntmps24
      go_wp2
      go_ret
      exact ⟨FF.out _ (by simp only [Bool.false_eq_true, false_iff]; exact fun h => FN.out h.1), HK.out.bel⟩
end Go.Proofs.YtdgaflcnigljlaaGreatDoor
