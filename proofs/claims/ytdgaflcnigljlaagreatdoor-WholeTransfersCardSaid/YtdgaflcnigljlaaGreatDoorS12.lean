/-
  Contracts and plain facts for the laws on the whole program: the parts below say each what they are. No further condition.
-/
import Derived.Test.YtdgaflcnigljlaaGreatDoorS07
import Derived.Test.YtdgaflcnigljlaaGreatDoorS11
import Derived.BigQuiet
import Derived.BigRegion
import Derived.Deep.QuietTactic
/-
  Contract of the library's insertion sort at the starts of seasons: by day, the elder index first. No further condition.
-/
namespace Go.Proofs.YtdgaflcnigljlaaGreatDoor
open Go.RowKit Go.Proofs.YtdgaflcnigljlaaGreatDoorW.PrintWords
set_option linter.unusedVariables false
def Lex (p q : Int × Int) : Prop := p.1 < q.1 ∨ (p.1 = q.1 ∧ p.2 < q.2)
def stRow (p : Int × Int) : Array Value := #[.int .i64 p.1, .int .i64 p.2]
def stRows (l : List (Int × Int)) : List (Array Value) := l.map stRow
set_option maxHeartbeats 400000 in
theorem cmp_c (a b c d : Int) (w : World) (h1 : -1000000000000 ≤ a) (h2 : a ≤ 1000000000000) (h3 : -1000000000000 ≤ c) (h4 : c ≤ 1000000000000) : Calls Tryz.prog 179 #[.agg #[.int .i64 a, .int .i64 b], .agg #[.int .i64 c, .int .i64 d]] w fun e w' => e = .returned (.int .i64 (a - c)) ∧ Below w.heap.size w w' := by
  go_enter Tryz.func179, Tryz.ntmps179
  go_wp2
  go_ret
  exact ⟨rfl, ((Below.refl _ _).alloc (Nat.le_refl _) _).alloc (by simp) _⟩
/-- What sorting keeps. -/
structure SoBox (w W : World) (base g cap n : Nat) (l : List (Int × Int)) : Prop where
  gr : w.grownBy W (some g)
  own : Own W base 193 2 (.slice (some ⟨g, 0, none⟩) n cap) (stRows l)
theorem SoBox.below {w W W2 : World} {base g cap n : Nat} {l : List (Int × Int)} (h : SoBox w W base g cap n l) (hb : Below W.heap.size W W2) : SoBox w W2 base g cap n l :=
  ⟨h.gr.trans ⟨hb.os, hb.tape, hb.output, hb.size, fun i hi _ => hb.block i hi⟩, h.own.below hb⟩
def SoC (w : World) (base g cap n : Nat) (l : List (Int × Int)) (W : World) : Prop := SoBox w W base g cap n l
theorem SoC.below {w W W2 : World} {base g cap n : Nat} {l : List (Int × Int)} (h : SoC w base g cap n l W) (hb : Below W.heap.size W W2) : SoC w base g cap n l W2 := SoBox.below h hb
theorem SoC.box {w W : World} {base g cap n : Nat} {l : List (Int × Int)} (h : SoC w base g cap n l W) : SoBox w W base g cap n l := h
theorem SoBox.cells {w W : World} {base g cap n : Nat} {l : List (Int × Int)} (h : SoBox w W base g cap n l) {k : Nat} {p : Int × Int} (hk : l[k]? = some p) : (W.cell? ⟨g, k * 2, none⟩ = some (.int .i64 p.1) ∧ W.cell? ⟨g, k * 2 + 1, none⟩ = some (.int .i64 p.2)) ∧ W.frozen? ⟨g, k * 2, none⟩ = false ∧ W.frozen? ⟨g, k * 2 + 1, none⟩ = false := by
  obtain ⟨g', cap', he, _, _, _, hc⟩ := h.own.cell (k := k) (cs := stRow p) (by simp [stRows, hk])
  simp only [Value.slice.injEq, Option.some.injEq, Addr.mk.injEq, and_true] at he
  obtain ⟨rfl, _⟩ := he
  exact ⟨⟨(hc 0 (by omega)).1, (hc 1 (by omega)).1⟩, (hc 0 (by omega)).2, (hc 1 (by omega)).2⟩
theorem SoBox.put {w W : World} {base g cap n : Nat} {l : List (Int × Int)} (h : SoBox w W base g cap n l) {k : Nat} (hk : k < l.length) (p : Int × Int) : SoBox w ((W.setCell ⟨g, k * 2, none⟩ (.int .i64 p.1)).setCell ⟨g, k * 2 + 1, none⟩ (.int .i64 p.2)) base g cap n (l.set k p) := by
  obtain ⟨q, hq⟩ : ∃ q, l[k]? = some q := ⟨_, List.getElem?_eq_getElem hk⟩
  obtain ⟨o1, g1⟩ := h.own.set (k := k) (j := 0) (cs := stRow q) (by simp [stRows, hq]) (by omega) (.int .i64 p.1)
  obtain ⟨o2, g2⟩ := o1.set (k := k) (j := 1) (cs := (stRow q).setIfInBounds 0 (.int .i64 p.1)) (by rw [List.getElem?_set_self (by simpa [stRows] using hk)]) (by omega) (.int .i64 p.2)
  refine ⟨(h.gr.trans g1).trans g2, ?_⟩
  have e : (List.set (List.set (stRows l) k ((stRow q).setIfInBounds 0 (.int .i64 p.1))) k (((stRow q).setIfInBounds 0 (.int .i64 p.1)).setIfInBounds 1 (.int .i64 p.2))) = stRows (l.set k p) := by
    rw [List.set_set]; simp [stRows, stRow, List.map_set]
  rw [e] at o2
  exact o2
/-- Behind i rounds: the first i are sorted. -/
def SoOuter (l rows : List (Int × Int)) (i : Nat) : Prop := ∃ P R, rows = P ++ R ∧ P.length = i ∧ P.Pairwise Lex ∧ rows.Perm l ∧ R.Pairwise (fun a b => a.2 < b.2) ∧ ∀ p ∈ P, ∀ r ∈ R, p.2 < r.2
/-- Within a round: x stands at j. -/
def SoInner (l rows : List (Int × Int)) (i j : Nat) : Prop := ∃ A x B R, rows = A ++ x :: (B ++ R) ∧ A.length = j ∧ (A ++ B).length = i ∧ (A ++ B).Pairwise Lex ∧ rows.Perm l ∧ (x :: R).Pairwise (fun a b => a.2 < b.2) ∧ (∀ p ∈ A ++ B, ∀ r ∈ x :: R, p.2 < r.2) ∧ ∀ b ∈ B, x.1 < b.1
theorem SoOuter.inner {l rows : List (Int × Int)} {i : Nat} (h : SoOuter l rows i) (hi : i < rows.length) : SoInner l rows i i := by
  obtain ⟨P, R, rfl, h1, h2, h3, h4, h5⟩ := h
  cases R with
  | nil => simp at hi; omega
  | cons x R => exact ⟨P, x, [], R, rfl, h1, by simpa using h1, by simpa using h2, h3, h4, by simpa using h5, by simp⟩
theorem SoInner.outer {l rows : List (Int × Int)} {i j : Nat} (h : SoInner l rows i j) (hs : j = 0 ∨ ∃ q x, rows[j - 1]? = some q ∧ rows[j]? = some x ∧ q.1 ≤ x.1) : SoOuter l rows (i + 1) := by
  obtain ⟨A, x, B, R, rfl, h1, h2, h3, h4, h5, h6, h7⟩ := h
  refine ⟨A ++ x :: B, R, by simp, by simp at h2 ⊢; omega, ?_, h4, (List.pairwise_cons.1 h5).2, ?_⟩
  · rw [List.pairwise_append] at h3 ⊢
    refine ⟨h3.1, List.pairwise_cons.2 ⟨fun b hb => .inl (h7 b hb), h3.2.1⟩, ?_⟩
    intro a ha b hb
    rcases List.mem_cons.1 hb with rfl | hb
    · have hlt : a.2 < b.2 := h6 a (List.mem_append_left _ ha) b (List.mem_cons_self ..)
      have hle : a.1 ≤ b.1 := by
        rcases hs with rfl | ⟨q, x', hq, hx, hqx⟩
        · simp at h1; subst h1; cases ha
        · have hx' : x' = b := by rw [List.getElem?_append_right (by omega), h1, Nat.sub_self] at hx; simpa using hx.symm
          subst hx'
          have hA : A ≠ [] := fun e => by subst e; cases ha
          have hlast : A[j - 1]? = some q := by
            rw [List.getElem?_append_left (by have : 0 < A.length := List.length_pos_iff.2 hA; omega)] at hq; exact hq
          obtain ⟨k, hk, e⟩ := List.getElem_of_mem ha
          by_cases hkj : k = j - 1
          · subst hkj
            have : A[j - 1]? = some a := by rw [List.getElem?_eq_getElem hk, e]
            rw [this] at hlast; cases hlast; exact hqx
          · have hj1 : j - 1 < A.length := (List.getElem?_eq_some_iff.1 hlast).1
            have := List.pairwise_iff_getElem.1 h3.1 k (j - 1) hk hj1 (by omega)
            rw [e, (List.getElem?_eq_some_iff.1 hlast).2] at this
            rcases this with t | ⟨t, _⟩ <;> omega
      rcases Int.lt_or_eq_of_le hle with h | h
      · exact .inl h
      · exact .inr ⟨h, hlt⟩
    · exact h3.2.2 a ha b hb
  · intro p hp r hr
    rcases List.mem_append.1 hp with hp | hp
    · exact h6 p (List.mem_append_left _ hp) r (.tail _ hr)
    · rcases List.mem_cons.1 hp with rfl | hp
      · exact (List.pairwise_cons.1 h5).1 r hr
      · exact h6 p (List.mem_append_right _ hp) r (.tail _ hr)
theorem SoInner.swap {l rows : List (Int × Int)} {i k : Nat} {q x : Int × Int} (h : SoInner l rows i (k + 1)) (hq : rows[k]? = some q) (hx : rows[k + 1]? = some x) (hlt : x.1 < q.1) : SoInner l ((rows.set (k + 1) q).set k x) i k := by
  obtain ⟨A, x', B, R, rfl, h1, h2, h3, h4, h5, h6, h7⟩ := h
  have hx' : x' = x := by rw [List.getElem?_append_right (by omega), h1, Nat.sub_self] at hx; simpa using hx
  subst hx'
  obtain ⟨A', q', rfl⟩ : ∃ A' q', A = A' ++ [q'] := ⟨A.dropLast, A.getLast (by intro e; subst e; simp at h1), (List.dropLast_concat_getLast _).symm⟩
  have hA : A'.length = k := by simpa using h1
  have hq' : q' = q := by
    rw [List.append_assoc, List.getElem?_append_right (by omega), hA, Nat.sub_self] at hq; simpa using hq
  subst hq'
  have e : ((A' ++ [q'] ++ x' :: (B ++ R)).set (k + 1) q').set k x' = A' ++ x' :: ((q' :: B) ++ R) := by
    rw [List.append_assoc, List.set_append_right _ _ (by omega), hA, show k + 1 - k = 1 by omega, List.set_append_right _ _ (by omega), hA, Nat.sub_self]; rfl
  rw [e]
  refine ⟨A', x', q' :: B, R, rfl, hA, by simpa using h2, by simpa using h3, ?_, h5, by simpa using h6, ?_⟩
  · refine List.Perm.trans ?_ h4
    rw [List.append_assoc]
    refine List.Perm.append_left _ ?_
    exact List.Perm.swap q' x' (B ++ R)
  · intro b hb
    rcases List.mem_cons.1 hb with rfl | hb
    · exact hlt
    · exact h7 b hb

theorem SoInner.len {l rows : List (Int × Int)} {i j : Nat} (h : SoInner l rows i j) : i < rows.length ∧ rows.length = l.length ∧ j ≤ i := by
  obtain ⟨A, x, B, R, rfl, h1, h2, h3, h4, h5, h6, h7⟩ := h
  have := h4.length_eq
  simp only [List.length_append, List.length_cons] at *
  omega
theorem SoOuter.len {l rows : List (Int × Int)} {i : Nat} (h : SoOuter l rows i) : rows.length = l.length := by
  obtain ⟨P, R, rfl, h1, h2, h3, h4, h5⟩ := h
  exact h3.length_eq
theorem SoOuter.sorted {l rows : List (Int × Int)} {i : Nat} (h : SoOuter l rows i) (hi : rows.length ≤ i) : rows.Pairwise Lex ∧ rows.Perm l := by
  obtain ⟨P, R, rfl, h1, h2, h3, h4, h5⟩ := h
  have : R = [] := by
    cases R with
    | nil => rfl
    | cons a R => simp at hi; omega
  subst this
  simp only [List.append_nil] at *
  exact ⟨h2, h3⟩
theorem SoInner.perm {l rows : List (Int × Int)} {i j : Nat} (h : SoInner l rows i j) : rows.Perm l := by
  obtain ⟨A, x, B, R, rfl, h1, h2, h3, h4, h5, h6, h7⟩ := h
  exact h4
def Bd (l : List (Int × Int)) : Prop := ∀ p ∈ l, -1000000000000 ≤ p.1 ∧ p.1 ≤ 1000000000000
set_option maxRecDepth 20000 in
set_option maxHeartbeats 1000000 in
theorem insSt_c (l : List (Int × Int)) (base g cap n : Nat) (w : World) (hS : Hid (SoBox w w base g cap n l)) (hn : Hid (n = l.length)) (hB : Hid (Bd l)) (hi : Hid (l.Pairwise (fun a b => a.2 < b.2))) (h1 : 1 ≤ n) (h8 : n ≤ 20) :
    Calls Tryz.prog 228 #[.slice (some ⟨g, 0, none⟩) n cap, .int .i64 0, .int .i64 n, .func (.func 179) #[] #[]] w fun e w' => (∃ l', (e = .returned (.tuple #[]) ∧ l'.Pairwise Lex ∧ l'.Perm l) ∧ SoBox w w' base g cap n l') := by
  have C1 : n ≤ cap := by
    obtain ⟨A, c, he, hc⟩ := hS.out.own.form
    simp only [Value.slice.injEq, stRows, List.length_map] at he hc
    omega
  have h1' : 1 ≤ l.length := by have := hn.out; omega
  go_enter Tryz.func228, Tryz.ntmps228
  go_wp2_with fail
  go_loopw [8] (fun i wr => ∃ (k : Nat) (rows : List (Int × Int)), 1 ≤ k ∧ k ≤ n ∧ i = .int .i64 k ∧ Hid (SoOuter l rows k) ∧ Hid (SoBox w wr base g cap n rows)) (fun i _ => (n - intOf i).toNat)
  case atStart =>
    refine ⟨1, l, by omega, by omega, rfl, Lib.hid ?_, hS⟩
    cases l with
    | nil => simp at h1'
    | cons p l =>
      obtain ⟨a, b⟩ := List.pairwise_cons.1 hi.out
      exact ⟨[p], l, rfl, rfl, by simp, List.Perm.refl _, b, by simpa using a⟩
  case round =>
    obtain ⟨k, rows, k1, k2, rfl, HO, HS⟩ := hrel
    by_cases hk : k < n
    · have HN := Lib.hid (HO.out.inner (by have := HO.out.len; have := hn.out; omega))
      have hb1 : decide ((k : Int) < n) = true := by simp; omega
      go_wp2_with fail
      go_loopw [9] (fun j wr => ∃ (m : Nat) (rows : List (Int × Int)), j = .int .i64 m ∧ m ≤ k ∧ Hid (SoInner l rows k m) ∧ Hid (SoBox w wr base g cap n rows)) (fun j _ => (intOf j).toNat)
      case atStart => exact ⟨k, rows, rfl, Nat.le_refl _, HN, HS⟩
      case round =>
        clear HO HS HN rows
        obtain ⟨m, rows, rfl, mk, HN, HS⟩ := hrel
        obtain ⟨L1, L2, L3⟩ := HN.out.len
        cases m with
        | zero =>
          have D1 : SoBox w wr.drew base g cap n rows := HS.out.below (Below.refl _ _).drew
          go_wp2_with fail
          refine wp_region_cls (C := SoC w base g cap n rows) (by kernel_rfl) (by kernel_rfl) D1 ?_
          haveI : Nonempty (Of (SoC w base g cap n rows)) := ⟨⟨_, D1⟩⟩
          clear D1
          repeat go_big_quiet_step (fail)
          refine wpQuiet_nil ?_
          rintro _ ⟨w5, rfl⟩
          have HO := Lib.hid (HN.out.outer (.inl rfl))
          have HS5 := Lib.hid w5.ok.box
          go_wp2_with fail
          exact ⟨⟨k + 1, rows, by omega, by omega, by go_num, HO, HS5⟩, by simp [intOf]; omega⟩
        | succ m =>
          obtain ⟨q, hq⟩ : ∃ q, rows[m]? = some q := ⟨_, List.getElem?_eq_getElem (by omega)⟩
          obtain ⟨x, hx⟩ : ∃ x, rows[m + 1]? = some x := ⟨_, List.getElem?_eq_getElem (by omega)⟩
          obtain ⟨q1, q2⟩ := hB.out q (HN.out.perm.mem_iff.1 (List.mem_of_getElem? hq))
          obtain ⟨x1, x2⟩ := hB.out x (HN.out.perm.mem_iff.1 (List.mem_of_getElem? hx))
          have HQ := Lib.hid hq
          have HX := Lib.hid hx
          clear hq hx
          have D1 : SoBox w wr.drew base g cap n rows := HS.out.below (Below.refl _ _).drew
          have nl : n = rows.length := by have := hn.out; omega
          have NL := Lib.hid nl
          clear nl
          have j1 : ((m + 1 : Nat) : Int) - 1 = (m : Int) := by omega
          have t0 : decide (0 < ((m + 1 : Nat) : Int)) = true := by simp
          have t1 : ((m + 1 : Nat) : Int) < (n : Int) := by omega
          have t2 : (m : Int) < (n : Int) := by omega
          have c0 : ∀ y : Of (SoC w base g cap n rows), y.val.cell? ⟨g, (m + 1) * 2, none⟩ = some (.int .i64 x.1) := fun y => (y.ok.box.cells HX.out).1.1
          have c1 : ∀ y : Of (SoC w base g cap n rows), y.val.cell? ⟨g, (m + 1) * 2 + 1, none⟩ = some (.int .i64 x.2) := fun y => (y.ok.box.cells HX.out).1.2
          have c2 : ∀ y : Of (SoC w base g cap n rows), y.val.cell? ⟨g, m * 2, none⟩ = some (.int .i64 q.1) := fun y => (y.ok.box.cells HQ.out).1.1
          have c3 : ∀ y : Of (SoC w base g cap n rows), y.val.cell? ⟨g, m * 2 + 1, none⟩ = some (.int .i64 q.2) := fun y => (y.ok.box.cells HQ.out).1.2
          by_cases hlt : x.1 < q.1
          · have t3 : decide (x.1 - q.1 < 0) = true := by simp; omega
            go_wp2_with fail
            refine wp_region_cls (C := SoC w base g cap n rows) (by kernel_rfl) (by kernel_rfl) D1 ?_
            haveI : Nonempty (Of (SoC w base g cap n rows)) := ⟨⟨_, D1⟩⟩
            clear D1
            repeat go_big_quiet_step (first | (go_at_call 179; refine (cmp_c _ _ _ _ _ x1 x2 q1 q2).mono ?_; rintro e w6 ⟨rfl, hw⟩; exact ⟨rfl, ⟨⟨w6, SoC.below (Of.ok _) hw⟩, rfl⟩⟩))
            refine wpQuiet_nil ?_
            rintro _ ⟨w5, rfl⟩
            have HS5 := Lib.hid w5.ok.box
            clear c0 c1 c2 c3
            have HS7 := w5.ok.box
            have hw7 := HS7.cells HX.out
            have hv7 := HS7.cells HQ.out
            obtain ⟨⟨d1, d2⟩, d3, d4⟩ := hw7
            obtain ⟨⟨d5, d6⟩, d7, d8⟩ := hv7
            have HN2 := Lib.hid (HN.out.swap HQ.out HX.out hlt)
            clear HS7
            generalize w5.val = wq at *
            go_wp2_with fail
            go_region
            have P2 := Lib.hid (((HS5.out.put (k := m + 1) (by omega) q).put (k := m) (by simp; omega) x).below (Below.refl _ _).drew)
            clear d1 d2 d3 d4 d5 d6 d7 d8
            go_wp2_with fail
            exact ⟨⟨m, _, rfl, by omega, HN2, P2⟩, by simp [intOf]⟩
          · have t3 : decide (x.1 - q.1 < 0) = false := by simp; omega
            go_wp2_with fail
            refine wp_region_cls (C := SoC w base g cap n rows) (by kernel_rfl) (by kernel_rfl) D1 ?_
            haveI : Nonempty (Of (SoC w base g cap n rows)) := ⟨⟨_, D1⟩⟩
            clear D1
            repeat go_big_quiet_step (first | (go_at_call 179; refine (cmp_c _ _ _ _ _ x1 x2 q1 q2).mono ?_; rintro e w6 ⟨rfl, hw⟩; exact ⟨rfl, ⟨⟨w6, SoC.below (Of.ok _) hw⟩, rfl⟩⟩))
            refine wpQuiet_nil ?_
            rintro _ ⟨w5, rfl⟩
            have HO := Lib.hid (HN.out.outer (.inr ⟨q, x, HQ.out, HX.out, by omega⟩))
            have HS5 := Lib.hid w5.ok.box
            go_wp2_with fail
            exact ⟨⟨k + 1, rows, by omega, by omega, by go_num, HO, HS5⟩, by simp [intOf]; omega⟩
    · obtain rfl : k = n := by omega
      go_wp2_with fail
      go_end0
      exact ⟨rows, ⟨rfl, HO.out.sorted (by have := HO.out.len; have := hn.out; omega)⟩, HS.out⟩
set_option maxRecDepth 20000 in
theorem stableSt_c (l : List (Int × Int)) (base g cap n : Nat) (w : World) (hS : Hid (SoBox w w base g cap n l)) (hn : Hid (n = l.length)) (hB : Hid (Bd l)) (hi : Hid (l.Pairwise (fun a b => a.2 < b.2))) (h1 : 1 ≤ n) (h8 : n < 20) :
    Calls Tryz.prog 208 #[.slice (some ⟨g, 0, none⟩) n cap, .int .i64 n, .func (.func 179) #[] #[]] w fun e w' => (∃ l', (e = .returned (.tuple #[]) ∧ l'.Pairwise Lex ∧ l'.Perm l) ∧ SoBox w w' base g cap n l') := by
  have t1 : decide ((20 : Int) ≤ (n : Int)) = false := by simp; omega
  have t2 : decide ((20 : Int) < (n : Int)) = false := by simp; omega
  go_enter Tryz.func208, Tryz.ntmps208
  go_wp2_with fail
  go_loopw [7, 8] (fun a b wr => a = .int .i64 0 ∧ b = .int .i64 20 ∧ wr = w) (fun _ _ _ => 0)
  case atStart => exact ⟨rfl, rfl, rfl⟩
  case round =>
    obtain ⟨rfl, rfl, rfl⟩ := hrel
    go_wp2_with (first | (go_at_call 228; with_reducible refine (insSt_c l base g cap n _ hS hn hB hi h1 (by omega)).mono ?_; rintro e w1 ⟨l', ⟨rfl, s1, s2⟩, hT⟩; have HT := Lib.hid hT; have s1 := Lib.hid s1; have s2 := Lib.hid s2; clear hT))
    go_loopw [6] (fun a wr => a = .int .i64 20 ∧ wr = w1) (fun _ _ => 0)
    case atStart => exact ⟨rfl, rfl⟩
    case round =>
      obtain ⟨rfl, rfl⟩ := hrel
      go_wp2_with fail
      go_end0
      exact ⟨l', ⟨rfl, s1.out, s2.out⟩, HT.out⟩
theorem sortSt_c (l : List (Int × Int)) (base g cap n : Nat) (w : World) (hS : Hid (SoBox w w base g cap n l)) (hn : Hid (n = l.length)) (hB : Hid (Bd l)) (hi : Hid (l.Pairwise (fun a b => a.2 < b.2))) (h1 : 1 ≤ n) (h8 : n < 20) :
    Calls Tryz.prog 178 #[.slice (some ⟨g, 0, none⟩) n cap, .func (.func 179) #[] #[]] w fun e w' => (∃ l', (e = .returned (.tuple #[]) ∧ l'.Pairwise Lex ∧ l'.Perm l) ∧ SoBox w w' base g cap n l') := by
  go_enter Tryz.func178, Tryz.ntmps178
  go_wp2_with (first | (go_at_call 208; with_reducible refine (stableSt_c l base g cap n _ hS hn hB hi h1 h8).mono ?_; rintro e w1 ⟨l', ⟨rfl, s1, s2⟩, hT⟩; have HT := Lib.hid hT; have s1 := Lib.hid s1; have s2 := Lib.hid s2; clear hT))
  go_end0
  exact ⟨l', ⟨rfl, s1.out, s2.out⟩, HT.out⟩
end Go.Proofs.YtdgaflcnigljlaaGreatDoor
