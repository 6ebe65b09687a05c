/-
  Contracts and plain facts for the laws on the whole program: the parts below say each what they are. No further condition.
-/
import Derived.Test.YtdgaflcnigljlaaGreatDoorS09
import Derived.Laws.RangeString
/-
  Contracts of package catalogue at well-formed catalogues of few seasons and feasts, wherever these lie in memory. No further condition.
-/
namespace Go.Proofs.YtdgaflcnigljlaaGreatDoor
open Go.RowKit Go.Proofs.YtdgaflcnigljlaaGreatDoorW.PrintWords
set_option linter.unusedVariables false
structure AncT where
  k : Int
  m : Int
  d : Int
  o : Int
  wd : Int
  c : Int
deriving DecidableEq
def AncT.Ok (a : AncT) : Prop := AncOk a.k a.m a.d a.o a.wd a.c
def AncT.day (y : Int) (a : AncT) : Int := vAnc y a.k a.m a.d a.o a.wd a.c
structure Sea where
  id : ByteArray
  sun : Int
  wk : Int
  st : AncT
structure Fea where
  id : ByteArray
  rank : Int
  pol : Int
  at_ : AncT
structure Cat where
  free : Int
  seas : List Sea
  feas : List Fea
@[reducible] def Sea.cells (s : Sea) : Array Value := #[.string s.id, .int .i64 s.sun, .int .i64 s.wk, .int .i64 s.st.k, .int .i64 s.st.m, .int .i64 s.st.d, .int .i64 s.st.o, .int .i64 s.st.wd, .int .i64 s.st.c]
@[reducible] def Fea.cells (s : Fea) : Array Value := #[.string s.id, .int .i64 s.rank, .int .i64 s.pol, .int .i64 s.at_.k, .int .i64 s.at_.m, .int .i64 s.at_.d, .int .i64 s.at_.o, .int .i64 s.at_.wd, .int .i64 s.at_.c]
/-- An identifier: letters, digits behind the first character, single hyphens within. -/
def IdOk (s : ByteArray) : Prop := 1 ≤ s.size ∧ s.size ≤ 40 ∧ ∀ i : Nat, i < s.size → (97 ≤ bt s i ∧ bt s i ≤ 122) ∨ (48 ≤ bt s i ∧ bt s i ≤ 57 ∧ 0 < i) ∨ (bt s i = 45 ∧ 0 < i ∧ i + 1 < s.size ∧ bt s (i - 1 : Nat) ≠ 45)
def prevB (s : ByteArray) (i : Nat) : Int := if i = 0 then 45 else bt s (i - 1 : Nat)
theorem next_c (s : ByteArray) (i : Nat) (hi : i < s.size) (h : bt s i < 128) (w : World) (ty : TypeId) : (Instr.next (.pointer (some ⟨w.heap.size, 0, none⟩)) true ty).run Tryz.prog (w.iter s i) = .ok (.tuple #[.bool true, .int .i64 i, .int .i32 (bt s i)]) (w.iter s (i + 1)) := by
  have e := bt_at s (i : Int) (by simpa using hi)
  simp only [Int.toNat_natCast] at e
  have := run_next_ascii (P := Tryz.prog) w s i ty hi (by have := h; rw [← e] at this; omega)
  rw [this, e]
theorem IdOk.last {s : ByteArray} (h : IdOk s) : (prevB s s.size != 45) = true := by
  obtain ⟨h1, h2, h3⟩ := h
  have := h3 (s.size - 1) (by omega)
  unfold prevB
  rw [if_neg (by omega), bne_iff_ne]
  rcases this with ⟨a, b⟩ | ⟨a, b, c⟩ | ⟨a, b, c, d⟩
  · omega
  · omega
  · omega
set_option maxHeartbeats 400000 in
theorem ident_c (s : ByteArray) (w : World) (h : IdOk s) : Calls Tryz.prog 169 #[.string s] w fun e w' => e = .returned (.bool true) ∧ Below w.heap.size w w' := by
  have HL := Lib.hid h.last
  obtain ⟨h1, h2, h3⟩ := h
  have H3 := Lib.hid h3
  have b0 : decide ((s.size : Int) ≤ 40) = true := by simp; omega
  clear h3
  go_enter Tryz.func169, Tryz.ntmps169
  go_wp2
  go_loopg [3] s.size (fun g b wr => ∃ i : Nat, i ≤ s.size ∧ wr = w.iter s i ∧ b = .int .i32 (prevB s i) ∧ g = s.size - i)
  case atStart => exact ⟨0, by omega, rfl, by first | rfl | (simp [prevB]), by omega⟩
  case round =>
    obtain ⟨i, hi, rfl, rfl, hg⟩ := hrel
    have G := Lib.hid hg
    clear hg
    by_cases hs : i < s.size
    · have P1 := Lib.hid (show prevB s (i + 1) = bt s i by simp [prevB])
      have hr := (bt_range s i)
      rcases H3.out i hs with ⟨a, b⟩ | ⟨a, b, c⟩ | ⟨a, b, c, d⟩
      · have hnx := next_c s i hs (by omega) w
        generalize bt s i = x at *
        have t1 : decide (97 ≤ x) = true := by simpa using a
        have t2 : decide (x ≤ 122) = true := by simpa using b
        go_wp2
        all_goals
          go_roundg (gk - 1)
          case measure => have := G.out; omega
          case rel => exact ⟨i + 1, by omega, rfl, by rw [P1.out], by have := G.out; omega⟩
      · have hnx := next_c s i hs (by omega) w
        generalize bt s i = x at *
        have t1 : decide (97 ≤ x) = false := by simp; omega
        have t2 : decide (48 ≤ x) = true := by simpa using a
        have t3 : decide (x ≤ 57) = true := by simpa using b
        have t4 : decide (0 < i) = true := by simpa using c
        have t5 : decide (0 < (i : Int)) = true := by simpa using c
        go_wp2
        all_goals
          go_roundg (gk - 1)
          case measure => have := G.out; omega
          case rel => exact ⟨i + 1, by omega, rfl, by rw [P1.out], by have := G.out; omega⟩
      · have hnx := next_c s i hs (by omega) w
        have t6 : (prevB s i == 45) = false := by unfold prevB; rw [if_neg (by omega), beq_eq_false_iff_ne]; exact d
        rw [a] at hnx P1
        go_wp2
        all_goals
          go_roundg (gk - 1)
          case measure => have := G.out; omega
          case rel => exact ⟨i + 1, by omega, rfl, by rw [P1.out], by have := G.out; omega⟩
    · obtain rfl : i = s.size := by omega
      have hnx := fun ty => run_next_end (P := Tryz.prog) w s s.size ty hs
      have HL2 := HL.out
      go_wp2
      go_ret
      exact ⟨by first | rfl | exact ret_bool HL.out, (Below.refl _ _).alloc (Nat.le_refl _) _⟩
theorem bt1 {n : Int} (h1 : 1 ≤ n) (h2 : n ≤ 9) : decide (1 ≤ n) = true ∧ decide (n ≤ 9) = true := ⟨by simpa using h1, by simpa using h2⟩
structure Sea.Ok (s : Sea) : Prop where
  id : IdOk s.id
  s1 : 1 ≤ s.sun
  s2 : s.sun ≤ 9
  w1 : 1 ≤ s.wk
  w2 : s.wk ≤ 9
  st : s.st.Ok
structure Fea.Ok (s : Fea) : Prop where
  id : IdOk s.id
  r1 : 1 ≤ s.rank
  r2 : s.rank ≤ 9
  p1 : 1 ≤ s.pol
  p2 : s.pol ≤ 3
  at_ : s.at_.Ok
theorem Blk.c9 {w : World} {gg : Nat} {a b c d e f g h i : Value} {t : TypeId} (H : Blk w gg #[a, b, c, d, e, f, g, h, i] t) : (w.cell? ⟨gg, 0, none⟩ = some a ∧ w.cell? ⟨gg, 1, none⟩ = some b ∧ w.cell? ⟨gg, 2, none⟩ = some c ∧ w.cell? ⟨gg, 3, none⟩ = some d ∧ w.cell? ⟨gg, 4, none⟩ = some e ∧ w.cell? ⟨gg, 5, none⟩ = some f ∧ w.cell? ⟨gg, 6, none⟩ = some g ∧ w.cell? ⟨gg, 7, none⟩ = some h ∧ w.cell? ⟨gg, 8, none⟩ = some i) ∧ gg < w.heap.size :=
  ⟨⟨H.cell 0, H.cell 1, H.cell 2, H.cell 3, H.cell 4, H.cell 5, H.cell 6, H.cell 7, H.cell 8⟩, H.lt⟩
set_option maxHeartbeats 400000 in
theorem seaok_c (s : Sea) (w : World) (h : Hid s.Ok) : Calls Tryz.prog 127 #[.agg s.cells] w fun e w' => e = .returned (.bool true) ∧ Below w.heap.size w w' := by
  have HB := (Below.refl w.heap.size w).alloc (Nat.le_refl _) (.cells s.cells 67)
  have B0 := Lib.hid (Blk.new w s.cells 67)
  obtain ⟨t1, t2⟩ := bt1 h.out.s1 h.out.s2
  obtain ⟨t3, t4⟩ := bt1 h.out.w1 h.out.w2
  have HI := Lib.hid h.out.id
  have HA : Hid (AncOk s.st.k s.st.m s.st.d s.st.o s.st.wd s.st.c) := Lib.hid h.out.st
  clear h
  obtain ⟨id, sun, wk, ⟨k, m, d, o, wd, c⟩⟩ := s
  simp only [Sea.cells] at *
  go_enter Tryz.func127, Tryz.ntmps127
  go_wp2_with (first | (go_at_call 169; with_reducible refine (ident_c _ _ HI.out).mono ?_; rintro e w1 ⟨rfl, hw⟩; replace B0 := Lib.hid (B0.out.below hw); replace HB := below_then HB HB.size hw; clear hw; obtain ⟨⟨a0, a1, a2, a3, a4, a5, a6, a7, a8⟩, blt⟩ := B0.out.c9) | (go_at_call 170; go_in) | (go_at_call 171; with_reducible refine (chk_c _ _ _ _ _ _ _ HA.out).mono ?_; rintro e w1 ⟨rfl, hw⟩; replace HB := below_then HB HB.size hw; clear hw))
  go_ret
  exact ⟨rfl, HB⟩
set_option maxHeartbeats 400000 in
theorem feaok_c (s : Fea) (w : World) (h : Hid s.Ok) : Calls Tryz.prog 128 #[.agg s.cells] w fun e w' => e = .returned (.bool true) ∧ Below w.heap.size w w' := by
  have HB := (Below.refl w.heap.size w).alloc (Nat.le_refl _) (.cells s.cells 63)
  have B0 := Lib.hid (Blk.new w s.cells 63)
  obtain ⟨t1, t2⟩ := bt1 h.out.r1 h.out.r2
  have t3 : decide (1 ≤ s.pol) = true := by simpa using h.out.p1
  have t4 : decide (s.pol ≤ 3) = true := by simpa using h.out.p2
  have HI := Lib.hid h.out.id
  have HA : Hid (AncOk s.at_.k s.at_.m s.at_.d s.at_.o s.at_.wd s.at_.c) := Lib.hid h.out.at_
  clear h
  obtain ⟨id, sun, wk, ⟨k, m, d, o, wd, c⟩⟩ := s
  simp only [Fea.cells] at *
  go_enter Tryz.func128, Tryz.ntmps128
  go_wp2_with (first | (go_at_call 169; with_reducible refine (ident_c _ _ HI.out).mono ?_; rintro e w1 ⟨rfl, hw⟩; replace B0 := Lib.hid (B0.out.below hw); replace HB := below_then HB HB.size hw; clear hw; obtain ⟨⟨a0, a1, a2, a3, a4, a5, a6, a7, a8⟩, blt⟩ := B0.out.c9) | (go_at_call 170; go_in) | (go_at_call 171; with_reducible refine (chk_c _ _ _ _ _ _ _ HA.out).mono ?_; rintro e w1 ⟨rfl, hw⟩; replace HB := below_then HB HB.size hw; clear hw))
  go_ret
  exact ⟨rfl, HB⟩

/-! the catalogue in memory -/
def RowIs (w : World) (p : Addr) (cs : Array Value) : Prop := ∀ j v, cs[j]? = some v → w.cell? (if j = 0 then p else ⟨p.block, p.off + j, none⟩) = some v
theorem RowIs.below {w w1 : World} {p : Addr} {cs : Array Value} (h : RowIs w p cs) (hb : Below w.heap.size w w1) : RowIs w1 p cs := fun j v e => pw_cell_below hb (h j v e)
theorem RowIs.nine {w : World} {p : Addr} {a b c d e f g h i : Value} (H : RowIs w p #[a, b, c, d, e, f, g, h, i]) : (w.cell? p = some a ∧ w.cell? ⟨p.block, p.off + 1, none⟩ = some b ∧ w.cell? ⟨p.block, p.off + 2, none⟩ = some c ∧ w.cell? ⟨p.block, p.off + 3, none⟩ = some d ∧ w.cell? ⟨p.block, p.off + 4, none⟩ = some e ∧ w.cell? ⟨p.block, p.off + 5, none⟩ = some f ∧ w.cell? ⟨p.block, p.off + 6, none⟩ = some g ∧ w.cell? ⟨p.block, p.off + 7, none⟩ = some h ∧ w.cell? ⟨p.block, p.off + 8, none⟩ = some i) :=
  ⟨H 0 _ rfl, H 1 _ rfl, H 2 _ rfl, H 3 _ rfl, H 4 _ rfl, H 5 _ rfl, H 6 _ rfl, H 7 _ rfl, H 8 _ rfl⟩
theorem RowIs.lt {w : World} {p : Addr} {a : Value} {cs : Array Value} (h : RowIs w p cs) (h0 : cs[0]? = some a) : p.block < w.heap.size := World.block_lt_of_cell? w p (h 0 a h0)
/-- The rows of a slice whose elements have nine cells. -/
def Rows9 (w : World) (A : Option Addr) (l : List (Array Value)) : Prop := ∀ (k : Nat) cs, l[k]? = some cs → ∃ ad, A = some ad ∧ RowIs w (ad.add (k * 9)) cs
theorem Rows9.below {w w1 : World} {A : Option Addr} {l : List (Array Value)} (h : Rows9 w A l) (hb : Below w.heap.size w w1) : Rows9 w1 A l := fun k cs e => by
  obtain ⟨ad, ha, hr⟩ := h k cs e
  exact ⟨ad, ha, hr.below hb⟩
/-- The catalogue C lies in w, its slices being these. -/
structure CatIn (w : World) (C : Cat) (A1 : Option Addr) (n1 c1 : Nat) (A2 : Option Addr) (n2 c2 : Nat) : Prop where
  e1 : n1 = C.seas.length
  e2 : n2 = C.feas.length
  l1 : n1 ≤ c1
  l2 : n2 ≤ c2
  sea : Rows9 w A1 (C.seas.map Sea.cells)
  fea : Rows9 w A2 (C.feas.map Fea.cells)
theorem CatIn.below {w w1 : World} {C : Cat} {A1 A2 : Option Addr} {n1 c1 n2 c2 : Nat} (h : CatIn w C A1 n1 c1 A2 n2 c2) (hb : Below w.heap.size w w1) : CatIn w1 C A1 n1 c1 A2 n2 c2 := ⟨h.e1, h.e2, h.l1, h.l2, h.sea.below hb, h.fea.below hb⟩
def Cat.ids (C : Cat) : List ByteArray := C.seas.map Sea.id ++ C.feas.map Fea.id
/-- A well-formed, small catalogue. -/
structure Cat.Good (C : Cat) : Prop where
  f1 : 0 ≤ C.free
  f2 : C.free ≤ 9
  n1 : 1 ≤ C.seas.length
  n2 : C.seas.length ≤ 8
  n3 : C.feas.length ≤ 31
  sea : ∀ s ∈ C.seas, s.Ok
  fea : ∀ s ∈ C.feas, s.Ok
  ids : C.ids.Nodup
@[reducible] def catV (C : Cat) (A1 : Option Addr) (n1 c1 : Nat) (A2 : Option Addr) (n2 c2 : Nat) : Value := .agg #[.int .i64 C.free, .slice A1 n1 c1, .slice A2 n2 c2]
theorem KS : KeyLike Tryz.prog 9 .string (fun a : ByteArray => Value.string a) := keyLike_string Tryz.underlying9
def seenF : List ByteArray → ByteArray → Option Value
  | [], _ => none
  | a :: l, x => if x = a then some (.bool true) else seenF l x
theorem seenF_snoc (l : List ByteArray) (a : ByteArray) : (fun j => if j = a then some (.bool true) else seenF l j) = seenF (l ++ [a]) := by
  funext j
  induction l with
  | nil => rfl
  | cons b l ih =>
    simp only [List.cons_append, seenF, ← ih]
    by_cases h : j = a <;> by_cases h' : j = b <;> simp [h, h']
theorem seenF_not {l : List ByteArray} {a : ByteArray} (h : a ∉ l) : seenF l a = none := by
  induction l with
  | nil => rfl
  | cons b l ih =>
    simp only [List.mem_cons, not_or] at h
    simp only [seenF]
    rw [if_neg h.1, ih h.2]
/-- What Check keeps: the catalogue's box and the map of what has been seen. -/
structure CkBox (w W : World) (C : Cat) (A1 : Option Addr) (n1 c1 : Nat) (A2 : Option Addr) (n2 c2 : Nat) (l : List ByteArray) : Prop where
  bel : Below w.heap.size w W
  box : Blk W w.heap.size #[.int .i64 C.free, .slice A1 n1 c1, .slice A2 n2 c2] 25
  map : MapIs (fun a : ByteArray => Value.string a) W (w.heap.size + 1) (seenF l)
section
variable {w W W2 : World} {C : Cat} {A1 A2 : Option Addr} {n1 c1 n2 c2 : Nat} {l : List ByteArray}
theorem CkBox.below (h : CkBox w W C A1 n1 c1 A2 n2 c2 l) (hb : Below W.heap.size W W2) : CkBox w W2 C A1 n1 c1 A2 n2 c2 l := ⟨below_then h.bel h.bel.size hb, h.box.below hb, h.map.below hb⟩
theorem CkBox.alloc (h : CkBox w W C A1 n1 c1 A2 n2 c2 l) (o : Obj) : CkBox w (W.alloc o) C A1 n1 c1 A2 n2 c2 l := h.below ((Below.refl _ _).alloc (Nat.le_refl _) o)
theorem CkBox.upd (h : CkBox w W C A1 n1 c1 A2 n2 c2 l) (a : ByteArray) (hm : MapIs (fun a : ByteArray => Value.string a) W2 (w.heap.size + 1) (fun j => if j = a then some (.bool true) else seenF l j)) (hg : W.grownBy W2 (some (w.heap.size + 1))) : CkBox w W2 C A1 n1 c1 A2 n2 c2 (l ++ [a]) :=
  ⟨h.bel.grown hg h.bel.size (fun k e => by cases e; exact Nat.le_succ _), blk_grown h.box hg (by simp), by rw [← seenF_snoc]; exact hm⟩
theorem CkBox.new (w : World) (C : Cat) (A1 : Option Addr) (n1 c1 : Nat) (A2 : Option Addr) (n2 c2 : Nat) : CkBox w ((w.alloc (.cells #[.int .i64 C.free, .slice A1 n1 c1, .slice A2 n2 c2] 25)).alloc (.map #[] 0)) C A1 n1 c1 A2 n2 c2 [] :=
  ⟨((Below.refl _ _).alloc (Nat.le_refl _) _).alloc (by simp) _, (Blk.new _ _ _).alloc _, by
    have := MapIs.made (inj := fun a : ByteArray => Value.string a) (w.alloc (.cells #[.int .i64 C.free, .slice A1 n1 c1, .slice A2 n2 c2] 25))
    rw [World.size_alloc] at this
    exact this⟩
end
theorem take_map {α β : Type} (f : α → β) {l : List α} {k : Nat} {s : α} (h : l[k]? = some s) : (l.take k).map f ++ [f s] = (l.take (k + 1)).map f := by
  rw [List.take_add_one, h]; simp
theorem Cat.Good.new_sea {C : Cat} (h : C.Good) {k : Nat} {s : Sea} (hs : C.seas[k]? = some s) : s.id ∉ (C.seas.take k).map Sea.id := by
  have hn := h.ids
  unfold Cat.ids at hn
  have hn1 := (List.nodup_append.1 hn).1
  intro hm
  obtain ⟨j, hj, e⟩ := List.getElem_of_mem hm
  simp only [List.length_map, List.length_take] at hj
  rw [List.getElem_map, List.getElem_take] at e
  have hk : k < C.seas.length := (List.getElem?_eq_some_iff.1 hs).1
  have e2 := (List.getElem?_eq_some_iff.1 hs).2
  have := List.pairwise_iff_getElem.1 hn1 j k (by simp; omega) (by simpa using hk) (by omega)
  simp only [List.getElem_map, e2] at this
  exact this e
theorem Cat.Good.new_fea {C : Cat} (h : C.Good) {k : Nat} {s : Fea} (hs : C.feas[k]? = some s) : s.id ∉ C.seas.map Sea.id ++ (C.feas.take k).map Fea.id := by
  have hn := h.ids
  unfold Cat.ids at hn
  obtain ⟨_, hn1, hd⟩ := List.nodup_append.1 hn
  have hk : k < C.feas.length := (List.getElem?_eq_some_iff.1 hs).1
  have e2 := (List.getElem?_eq_some_iff.1 hs).2
  intro hm
  rcases List.mem_append.1 hm with hm | hm
  · exact hd _ hm _ (List.mem_map.2 ⟨s, List.mem_of_getElem? hs, rfl⟩) rfl
  · obtain ⟨j, hj, e⟩ := List.getElem_of_mem hm
    simp only [List.length_map, List.length_take] at hj
    rw [List.getElem_map, List.getElem_take] at e
    have := List.pairwise_iff_getElem.1 hn1 j k (by simp; omega) (by simpa using hk) (by omega)
    simp only [List.getElem_map, e2] at this
    exact this e
theorem gate_guard' {P : Program} {ops : Array Oper} {rest : List Oper} {o : Oper} {a : Act} {Q : Exit → Act → World → Prop} {W : World} (hw : Region.wanted o (yielded ops a.tmps) = true) (h : wpList P ops Q ({ o with guard := none } :: rest) a W) : wpList P ops Q (o :: rest) a W := by
  have h1 : Region.wanted { o with guard := none } (yielded ops a.tmps) = true := rfl
  unfold wpList at h ⊢
  rw [if_pos h1] at h
  rw [if_pos hw]
  exact h
theorem zb (w : World) : (zeroValue 4).run Tryz.prog w = .ok (.bool false) w := by kernel_rfl
set_option maxRecDepth 20000 in
set_option maxHeartbeats 1000000 in
theorem check_ok (C : Cat) (A1 : Option Addr) (n1 c1 : Nat) (A2 : Option Addr) (n2 c2 : Nat) (w : World) (hI : Hid (CatIn w C A1 n1 c1 A2 n2 c2)) (hG : Hid C.Good) : Calls Tryz.prog 88 #[.agg #[.int .i64 C.free, .slice A1 n1 c1, .slice A2 n2 c2]] w fun e w' => e = .returned (.int .i64 0) ∧ Below w.heap.size w w' := by
  have hmm := @run_makeMap Tryz.prog
  have HK := Lib.hid (CkBox.new w C A1 n1 c1 A2 n2 c2)
  have f1 : decide (C.free < 0) = false := by simp; exact hG.out.f1
  have f2 : decide (9 < C.free) = false := by simp; exact hG.out.f2
  have g1 : 1 ≤ n1 := by have := hG.out.n1; have := hI.out.e1; omega
  have g2 : n1 ≤ 8 := by have := hG.out.n2; have := hI.out.e1; omega
  have g3 : n2 ≤ 31 := by have := hG.out.n3; have := hI.out.e2; omega
  have f3 : ((n1 : Int) == 0) = false := by simp; omega
  have f4 : decide (20 < (n1 : Int)) = false := by simp; omega
  have f5 : decide (400 < (n2 : Int)) = false := by simp; omega
  go_enter Tryz.func88, Tryz.ntmps88
  go_wp2_with fail
  go_loopw [38] (fun i wr => ∃ k : Int, 0 ≤ k ∧ k ≤ n1 ∧ i = .int .i64 k ∧ Hid (CkBox w wr C A1 n1 c1 A2 n2 c2 ((C.seas.take k.toNat).map Sea.id))) (fun i _ => (n1 - intOf i).toNat)
  case atStart => exact ⟨0, by omega, by omega, rfl, Lib.hid HK.out⟩
  case round =>
    clear HK
    obtain ⟨k, k0, k1, rfl, HK⟩ := hrel
    by_cases hk : k < n1
    · obtain ⟨s, hs⟩ : ∃ s, C.seas[k.toNat]? = some s := ⟨_, List.getElem?_eq_getElem (by have := hI.out.e1; omega)⟩
      have hm : s ∈ C.seas := List.mem_of_getElem? hs
      have OK := Lib.hid (hG.out.sea s hm)
      have NI := Lib.hid (hG.out.new_sea hs)
      have TK := Lib.hid (take_map Sea.id hs)
      obtain ⟨ad, ha, hr⟩ := (hI.out.sea.below HK.out.bel) k.toNat s.cells (by rw [List.getElem?_map, hs]; rfl)
      have HR := Lib.hid hr
      obtain ⟨a0, a1, a2, a3, a4, a5, a6, a7, a8⟩ := RowIs.nine hr
      have plt := hr.lt rfl
      clear hr hm hs
      subst ha
      go_wp2_with (first | (go_at_call 127; with_reducible refine (seaok_c s _ OK).mono ?_; rintro e w1 ⟨rfl, hw⟩; replace HK := Lib.hid ((HK.out.alloc _).below hw); have BS := (Blk.new wr s.cells 67).below hw; clear hw a0 a1 a2 a3 a4 a5 a6 a7 a8 plt; obtain ⟨⟨a0, a1, a2, a3, a4, a5, a6, a7, a8⟩, blt⟩ := Blk.c9 BS; clear BS) | ((with_reducible refine gate_ (.lookup 184 _ _ _) rfl ?_); refine gate_guard' (by rfl) ?_; dsimp only; with_reducible refine wpl_lookup 184 rfl rfl KS Tryz.underlying184 rfl HK.out.map _ rfl zb (.bool false) (by rw [seenF_not NI.out]; simp) ?_) | (with_reducible refine wpl_mapUpdate 184 rfl rfl KS Tryz.underlying184 rfl HK.out.map s.id (.bool true) rfl (by simp [Act.eval]) ?_; intro w2 hm hg hsz; replace HK := Lib.hid (HK.out.upd _ hm hg); clear hm hg hsz))
      go_roundw
      case rel => exact ⟨k + 1, by omega, by omega, by go_num, Lib.hid (by rw [show (k + 1).toNat = k.toNat + 1 by omega, ← TK.out]; exact HK.out)⟩
      case measure => simp [intOf]; omega
    · obtain rfl : k = n1 := by omega
      have TA := Lib.hid (show (C.seas.take (n1 : Int).toNat).map Sea.id = C.seas.map Sea.id by rw [List.take_of_length_le (by have := hI.out.e1; omega)])
      rw [TA.out] at HK
      clear TA k0 k1 hk
      obtain ⟨⟨x0, x1, x2⟩, _⟩ := HK.out.box.c3
      go_wp2_with fail
      clear x0 x1 x2
      go_loopw [58] (fun i wr => ∃ k : Int, 0 ≤ k ∧ k ≤ n2 ∧ i = .int .i64 k ∧ Hid (CkBox w wr C A1 n1 c1 A2 n2 c2 (C.seas.map Sea.id ++ (C.feas.take k.toNat).map Fea.id))) (fun i _ => (n2 - intOf i).toNat)
      case atStart => exact ⟨0, by omega, by omega, rfl, Lib.hid (by simpa using HK.out)⟩
      case round =>
        clear HK
        obtain ⟨k, k0, k1, rfl, HK⟩ := hrel
        by_cases hk : k < n2
        · obtain ⟨s, hs⟩ : ∃ s, C.feas[k.toNat]? = some s := ⟨_, List.getElem?_eq_getElem (by have := hI.out.e2; omega)⟩
          have hm : s ∈ C.feas := List.mem_of_getElem? hs
          have OK := Lib.hid (hG.out.fea s hm)
          have NI := Lib.hid (hG.out.new_fea hs)
          have TK := Lib.hid (take_map Fea.id hs)
          obtain ⟨ad, ha, hr⟩ := (hI.out.fea.below HK.out.bel) k.toNat s.cells (by rw [List.getElem?_map, hs]; rfl)
          obtain ⟨a0, a1, a2, a3, a4, a5, a6, a7, a8⟩ := RowIs.nine hr
          have plt := hr.lt rfl
          clear hr hm hs
          subst ha
          go_wp2_with (first | (go_at_call 128; with_reducible refine (feaok_c s _ OK).mono ?_; rintro e w1 ⟨rfl, hw⟩; replace HK := Lib.hid ((HK.out.alloc _).below hw); have BS := (Blk.new wr s.cells 63).below hw; clear hw a0 a1 a2 a3 a4 a5 a6 a7 a8 plt; obtain ⟨⟨a0, a1, a2, a3, a4, a5, a6, a7, a8⟩, blt⟩ := Blk.c9 BS; clear BS) | ((with_reducible refine gate_ (.lookup 184 _ _ _) rfl ?_); refine gate_guard' (by rfl) ?_; dsimp only; with_reducible refine wpl_lookup 184 rfl rfl KS Tryz.underlying184 rfl HK.out.map _ rfl zb (.bool false) (by rw [seenF_not NI.out]; simp) ?_) | (with_reducible refine wpl_mapUpdate 184 rfl rfl KS Tryz.underlying184 rfl HK.out.map s.id (.bool true) rfl (by simp [Act.eval]) ?_; intro w2 hm hg hsz; replace HK := Lib.hid (HK.out.upd _ hm hg); clear hm hg hsz))
          go_roundw
          case rel => exact ⟨k + 1, by omega, by omega, by go_num, Lib.hid (by rw [show (k + 1).toNat = k.toNat + 1 by omega, ← TK.out, ← List.append_assoc]; exact HK.out)⟩
          case measure => simp [intOf]; omega
        · go_wp2_with fail
          go_ret
          exact ⟨rfl, HK.out.bel⟩
end Go.Proofs.YtdgaflcnigljlaaGreatDoor
