/-
  Contracts and plain facts for the laws on the whole program: the parts below say each what they are. No further condition.
-/
import Derived.Test.YtdgaflcnigljlaaGreatDoorS04
import Derived.Maps.AppendAt
import Derived.Laws.OwnMore
/-
  Laws on rows of structs that a call makes by append: reading, appending, storing. No further condition.
-/
namespace Go.Proofs.YtdgaflcnigljlaaGreatDoor
open Go.RowKit Go.Proofs.YtdgaflcnigljlaaGreatDoorW.PrintWords
set_option linter.unusedVariables false
/-- v is a slice of the call's own whose elements have these cells. -/
def Own (w : World) (base : Nat) (e : TypeId) (sz : Nat) (v : Value) (rows : List (Array Value)) : Prop := w.ownsRow base e sz v rows.length (rows.flatMap Array.toList) ∧ ∀ r ∈ rows, r.size = sz
theorem flat_len {rows : List (Array Value)} {sz : Nat} (h : ∀ r ∈ rows, r.size = sz) : (rows.flatMap Array.toList).length = rows.length * sz := by
  induction rows with
  | nil => simp
  | cons r rows ih =>
    rw [List.flatMap_cons, List.length_append, ih (fun x hx => h x (.tail _ hx)), Array.length_toList, h r (.head _), List.length_cons, Nat.add_mul]; omega
theorem flat_at {rows : List (Array Value)} {sz : Nat} (h : ∀ r ∈ rows, r.size = sz) {k j : Nat} {cs : Array Value} (hk : rows[k]? = some cs) (hj : j < sz) : (rows.flatMap Array.toList)[k * sz + j]? = cs[j]? := by
  induction rows generalizing k with
  | nil => simp at hk
  | cons r rows ih =>
    have hr := h r (.head _)
    rw [List.flatMap_cons]
    cases k with
    | zero =>
      simp only [List.getElem?_cons_zero, Option.some.injEq] at hk
      subst hk
      rw [Nat.zero_mul, Nat.zero_add, List.getElem?_append_left (by simpa [hr] using hj), Array.getElem?_toList]
    | succ k =>
      simp only [List.getElem?_cons_succ] at hk
      rw [List.getElem?_append_right (by rw [Array.length_toList, hr, Nat.succ_mul]; omega), Array.length_toList, hr, show (k + 1) * sz + j - sz = k * sz + j by rw [Nat.succ_mul]; omega]
      exact ih (fun x hx => h x (.tail _ hx)) hk
section
variable {w W : World} {base : Nat} {e : TypeId} {sz : Nat} {v : Value} {rows : List (Array Value)}
theorem Own.nil (w : World) (base : Nat) (e : TypeId) (sz : Nat) : Own w base e sz (.slice none 0 0) [] := ⟨World.ownsRow_nil w base e sz, fun r h => by cases h⟩
theorem Own.below (h : Own w base e sz v rows) (hb : Below w.heap.size w W) : Own W base e sz v rows := ⟨pw_own_below h.1 hb, h.2⟩
theorem Own.kept {row : Option Nat} (h : Own w base e sz v rows) (hg : w.grownBy W row) (hne : v.ownBlock = none ∨ v.ownBlock ≠ row) : Own W base e sz v rows := ⟨h.1.kept hg hne, h.2⟩
theorem Own.alloc (h : Own w base e sz v rows) (o : Obj) : Own (w.alloc o) base e sz v rows := ⟨h.1.alloc o, h.2⟩
theorem Own.drewN (h : Own w base e sz v rows) (n : Nat) : Own (w.drewN n) base e sz v rows := h
theorem Own.less {b : Nat} (h : Own w base e sz v rows) (hle : b ≤ base) : Own w b e sz v rows := ⟨own_less h.1 hle, h.2⟩
theorem Own.block (h : Own w base e sz v rows) (k : Nat) (hk : v.ownBlock = some k) : base ≤ k ∧ k < w.heap.size := h.1.lt k hk
/-- Its form. -/
theorem Own.form (h : Own w base e sz v rows) : ∃ A c, v = .slice A rows.length c ∧ rows.length ≤ c := by
  rcases h.1.2 with ⟨rfl, hn⟩ | ⟨g, cap, cur, rfl, _, _, hc, _⟩
  · exact ⟨none, 0, by rw [hn], by omega⟩
  · exact ⟨_, cap, rfl, hc⟩
theorem Own.cell (h : Own w base e sz v rows) {k : Nat} {cs : Array Value} (hk : rows[k]? = some cs) : ∃ g cap, v = .slice (some ⟨g, 0, none⟩) rows.length cap ∧ base ≤ g ∧ g < w.heap.size ∧ rows.length ≤ cap ∧ ∀ j, j < sz → w.cell? ⟨g, k * sz + j, none⟩ = cs[j]? ∧ w.frozen? ⟨g, k * sz + j, none⟩ = false := by
  have hlt : k < rows.length := (List.getElem?_eq_some_iff.1 hk).1
  rcases h.1.2 with ⟨_, hn⟩ | ⟨g, cap, cur, rfl, hb, hh, hc, _⟩
  · omega
  · refine ⟨g, cap, rfl, hb, (Array.getElem?_eq_some_iff.1 hh).1, hc, fun j hj => ⟨?_, h.1.frozenAt _⟩⟩
    rw [h.1.cellAt _ (by have := Nat.mul_le_mul_right sz (show k + 1 ≤ rows.length from hlt); rw [Nat.succ_mul] at this; omega), flat_at h.2 hk hj]
theorem set_flat {rows : List (Array Value)} {sz : Nat} (h : ∀ r ∈ rows, r.size = sz) {k j : Nat} {cs : Array Value} (hk : rows[k]? = some cs) (hj : j < sz) (u : Value) : (rows.flatMap Array.toList).set (k * sz + j) u = (rows.set k (cs.setIfInBounds j u)).flatMap Array.toList := by
  induction rows generalizing k with
  | nil => simp at hk
  | cons r rows ih =>
    have hr := h r (.head _)
    rw [List.flatMap_cons]
    cases k with
    | zero =>
      simp only [List.getElem?_cons_zero, Option.some.injEq] at hk
      subst hk
      rw [Nat.zero_mul, Nat.zero_add, List.set_append_left _ _ (by simpa [hr] using hj), List.set_cons_zero, List.flatMap_cons, Array.toList_setIfInBounds]
    | succ k =>
      simp only [List.getElem?_cons_succ] at hk
      rw [List.set_append_right _ _ (by rw [Array.length_toList, hr, Nat.succ_mul]; omega), Array.length_toList, hr, show (k + 1) * sz + j - sz = k * sz + j by rw [Nat.succ_mul]; omega, ih (fun x hx => h x (.tail _ hx)) hk, List.set_cons_succ, List.flatMap_cons]
theorem Own.set {g cap n : Nat} (h : Own w base e sz (.slice (some ⟨g, 0, none⟩) n cap) rows) {k j : Nat} {cs : Array Value} (hk : rows[k]? = some cs) (hj : j < sz) (u : Value) :
    Own (w.setCell ⟨g, k * sz + j, none⟩ u) base e sz (.slice (some ⟨g, 0, none⟩) n cap) (rows.set k (cs.setIfInBounds j u)) ∧ w.grownBy (w.setCell ⟨g, k * sz + j, none⟩ u) (some g) := by
  have hn : n = rows.length := by
    rcases h.1.2 with ⟨h', _⟩ | ⟨g', cap', cur, h', _⟩
    · simp at h'
    · simp only [Value.slice.injEq] at h'; exact h'.2.1
  subst hn
  have hs := h.1.stored (k * sz + j) u
  refine ⟨⟨?_, fun r hr => ?_⟩, hs.2⟩
  · have := hs.1
    rw [set_flat h.2 hk hj u] at this
    rw [List.length_set]
    exact this
  · rcases List.mem_or_eq_of_mem_set hr with hr | rfl
    · exact h.2 r hr
    · rw [Array.size_setIfInBounds]; exact h.2 cs (List.mem_of_getElem? hk)
variable {P : Program} {ops : Array Oper} {rest : List Oper} {o : Oper} {a : Act} {Q : Exit → Act → World → Prop}
theorem own_app {w0 W : World} {bytes : Nat} {z : Value} (t e : TypeId) (hgd : o.guard = none) (s x : Operand)
    (ho : o.op = .call { callee := .builtin .append, args := #[s, x], argTypes := #[t, t] })
    (ht : P.underlying t = some (.slice e)) (hinfo : (P.info? e).map (fun i => (i.zero, i.size, i.bytes)) = some (some z, sz, bytes)) (hz : z.cells.size = sz) (hsz : 0 < sz) (hb0 : 0 < bytes)
    (v : Value) (hs : a.eval s = v) (cs : Array Value) (hx : a.eval x = .slice (some ⟨W.heap.size, 0, none⟩) 1 1) (hcs : cs.size = sz) (h1 : ∀ u ∈ cs.toList, u.oneCell' = true)
    (HO : Own W base e sz v rows) (HB : Below base w0 W) (hbase : base ≤ W.heap.size) (hl : (rows.length + 1) * bytes ≤ 140737488355328)
    (h : ∀ v1 w1, Own w1 base e sz v1 (rows ++ [cs]) → Below base w0 w1 → W.grownBy w1 v.ownBlock → (v1.ownBlock = v.ownBlock ∨ ∃ b, v1.ownBlock = some b ∧ W.heap.size ≤ b) → wpList P ops Q rest (a.put o.dst v1) w1) :
    wpList P ops Q (o :: rest) a (W.alloc (.cells cs e)) := by
  obtain ⟨i0, hi, hzz⟩ := Option.map_eq_some_iff.1 hinfo
  simp only [Prod.mk.injEq] at hzz
  obtain ⟨hz0, hz1, hz2⟩ := hzz
  have hlen : rows.length + 1 ≤ 140737488355328 := Nat.le_trans (Nat.le_mul_of_pos_right _ hb0) hl
  refine wpList_append_own_at (W.alloc (.cells cs e)) hgd s x t ho base e i0 z sz bytes ht hi hz0 hz1 hz2 hz hsz v rows.length _ hs (HO.1.alloc _) ⟨W.heap.size, 0, none⟩ 1 1 cs.toList hx (by simp [hcs])
    (World.news_of_block (cs := cs) (t := e) (fr := (0, 0)) (heap_alloc_new W _)) h1 (by simp only [maxLen]; omega) hl (by simp; omega) ?_
  intro v1 w1 hown hg _ hat
  refine h v1 w1 ⟨by simpa using hown, fun r hr => ?_⟩ ((HB.alloc hbase _).grown hg (by simp; omega) (own_base HO.1)) (World.grownBy.trans (World.grownBy_alloc W _ _) hg) ?_
  · rcases List.mem_append.1 hr with hr | hr
    · exact HO.2 r hr
    · simp at hr; rw [hr]; exact hcs
  · rcases hat with hat | hat
    · exact .inl hat
    · exact .inr ⟨_, hat, by simp⟩
end
/-! rows of whole numbers -/
def intRows (xs : List Int) : List (Array Value) := xs.map fun x => #[.int .i64 x]
theorem intRows_snoc (xs : List Int) (x : Int) : intRows xs ++ [#[.int .i64 x]] = intRows (xs ++ [x]) := by simp [intRows]
theorem Own.ints {w : World} {base : Nat} {e : TypeId} {A : Option Addr} {n c : Nat} {xs : List Int} (h : Own w base e 1 (.slice A n c) (intRows xs)) : n = xs.length ∧ n ≤ c ∧ ReadsInt w .i64 A n xs := by
  obtain ⟨A', c', he, hc⟩ := h.form
  simp only [Value.slice.injEq, intRows, List.length_map] at he
  obtain ⟨rfl, rfl, rfl⟩ := he
  refine ⟨rfl, by simpa [intRows] using hc, rfl, ?_, fun hp => ?_⟩
  · rcases h.1.2 with ⟨_, h1⟩ | ⟨g', cap', cur, he, _, _, h1, h2, _⟩
    · simp [intRows] at h1; simp [h1]
    · simp only [maxLen] at h2; simp [intRows] at h1; omega
  · obtain ⟨x, hx⟩ : ∃ x, xs[0]? = some x := ⟨_, List.getElem?_eq_getElem hp⟩
    obtain ⟨g, cap, hv, _⟩ := h.cell (k := 0) (cs := #[.int .i64 x]) (by simp [intRows, hx])
    simp only [Value.slice.injEq] at hv
    obtain ⟨rfl, _⟩ := hv
    refine ⟨_, rfl, fun j hj => ?_⟩
    obtain ⟨g', cap', hv, _, _, _, hc⟩ := h.cell (k := j) (cs := #[.int .i64 (xs.getD j 0)]) (by simp [intRows, List.getElem?_eq_getElem hj, List.getD_eq_getElem?_getD])
    simp only [Value.slice.injEq, Option.some.injEq, Addr.mk.injEq, and_true] at hv
    obtain ⟨rfl, _⟩ := hv
    have := (hc 0 (by omega)).1
    simp only [Nat.mul_one, Nat.add_zero] at this
    rw [add_plain]; exact this
end Go.Proofs.YtdgaflcnigljlaaGreatDoor
