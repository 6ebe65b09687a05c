/-
  Contracts and plain facts for the laws on the whole program: the parts below say each what they are. No further condition.
-/
import Derived.Test.YtdgaflcnigljlaaGreatDoorS10
import Derived.Deep.Slices
import Derived.Deep.Strs
import Derived.Lib.SmallJoins
import Derived.ReadAgain
import Derived.ChangeOld
import Derived.Below
import Derived.Lib.LaidTab
/-
  The laws' arguments, opened: a catalogue by its cells, an anchor; what was handed in reads afterwards as it did. No further condition.
-/
namespace Go.Proofs.YtdgaflcnigljlaaGreatDoor
open Go.ChangeShapes Go.WideShapes Go.ChangeAt Go.RowKit Go.Joins Go.Deep Go.Proofs
set_option linter.unusedVariables false
section
variable {H : Type} {enc : TypeId × Value → H} {P : Program} {W W' : World} {base : Nat} {spare : Nat → Bool} {held : Bool}
theorem trodAll_below : ∀ {ts : List TypeId} {vs : List Value} {ds : List (DataW H)} {ps : List MemPlace}, DataW.TrodAll enc P W base spare held ts vs ds ps → Below W.heap.size W W' → DataW.TrodAll enc P W' base spare held ts vs ds ps
  | [], [], [], _, h, _ => h
  | _ :: _, _ :: _, _ :: _, _, ⟨p, q, ⟨n, hn⟩, hs, e⟩, hb => ⟨p, q, ⟨n, DataW.trod_carry _ _ _ _ hn fun z hz => hb.same (DataW.trod_lt _ _ _ _ hn z hz)⟩, trodAll_below hs hb, e⟩
end
theorem fcell3 : (Tryz.prog).cellsOf 3 = 1 := by kernel_rfl
theorem fcell9 : (Tryz.prog).cellsOf 9 = 1 := by kernel_rfl
theorem fcell59 : (Tryz.prog).cellsOf 59 = 6 := by kernel_rfl
theorem fcell67 : (Tryz.prog).cellsOf 67 = 9 := by kernel_rfl
theorem fcell63 : (Tryz.prog).cellsOf 63 = 9 := by kernel_rfl
theorem fcell25 : (Tryz.prog).cellsOf 25 = 3 := by kernel_rfl
section
variable {H : Type} {enc : TypeId × Value → H} {W W' : World} {base : Nat} {spare : Nat → Bool} {held : Bool}
theorem fr_int {n : Nat} {c : Value} {x : DataW H × List MemPlace} (h : DataW.trod enc Tryz.prog W base spare held n 3 [c] = some x) : ∃ a, c = .int .i64 a := by
  obtain ⟨a, h1, _, _⟩ := DataW.trod_int Tryz.underlying3 h
  exact ⟨a, by simpa using h1⟩
theorem fr_str {n : Nat} {c : Value} {x : DataW H × List MemPlace} (h : DataW.trod enc Tryz.prog W base spare held n 9 [c] = some x) : ∃ a, c = .string a := by
  obtain ⟨a, h1, _, _⟩ := DataW.trod_string Tryz.underlying9 h
  exact ⟨a, by simpa using h1⟩
theorem fr_l6 {cs : List Value} (h : cs.length = 6) : ∃ a b c d e f, cs = [a, b, c, d, e, f] := by
  match cs, h with
  | [a, b, c, d, e, f], _ => exact ⟨a, b, c, d, e, f, rfl⟩
theorem fr_l9 {cs : List Value} (h : cs.length = 9) : ∃ a b c d e f g i j, cs = [a, b, c, d, e, f, g, i, j] := by
  match cs, h with
  | [a, b, c, d, e, f, g, i, j], _ => exact ⟨a, b, c, d, e, f, g, i, j, rfl⟩
theorem fr_at {α : Type} {xs : List α} {n i : Nat} (h : xs.length = n) (hi : i < n) : ∃ x, xs[i]? = some x := ⟨_, List.getElem?_eq_getElem (by omega)⟩
theorem fr_anc {n : Nat} {cs : List Value} {x : DataW H × List MemPlace} (h : DataW.trod enc Tryz.prog W base spare held n 59 cs = some x) : ∃ t : AncT, cs = [.int .i64 t.k, .int .i64 t.m, .int .i64 t.d, .int .i64 t.o, .int .i64 t.wd, .int .i64 t.c] := by
  obtain ⟨xs, m, _, rfl, hl, hlen, hf⟩ := DataW.trod_struct Tryz.underlying59 h
  rw [fcell59] at hl
  obtain ⟨a, b, c, d, e, f, rfl⟩ := fr_l6 hl
  have hlen' : xs.length = 6 := hlen
  have key : ∀ (i : Nat) (fd : Field) (v : Value), i < 6 → (#[{ name := "Kind", type := 3, offset := 0, embedded := false, tag := "", pkgPath := "", byteOffset := 0 }, { name := "Month", type := 3, offset := 1, embedded := false, tag := "", pkgPath := "", byteOffset := 8 }, { name := "Day", type := 3, offset := 2, embedded := false, tag := "", pkgPath := "", byteOffset := 16 }, { name := "Offset", type := 3, offset := 3, embedded := false, tag := "", pkgPath := "", byteOffset := 24 }, { name := "Weekday", type := 3, offset := 4, embedded := false, tag := "", pkgPath := "", byteOffset := 32 }, { name := "Count", type := 3, offset := 5, embedded := false, tag := "", pkgPath := "", byteOffset := 40 }] : Array Field)[i]? = some fd → fd.type = 3 → (([a, b, c, d, e, f] : List Value).drop fd.offset).take 1 = [v] → ∃ z, v = .int .i64 z := fun i fd v hi hfd ht hv => by
    have h1 := hf i fd hfd
    rw [ht, fcell3, hv] at h1
    obtain ⟨y, hy⟩ := fr_at hlen' hi
    rw [hy] at h1
    exact fr_int h1
  obtain ⟨z0, rfl⟩ := key 0 _ a (by decide) rfl rfl rfl
  obtain ⟨z1, rfl⟩ := key 1 _ b (by decide) rfl rfl rfl
  obtain ⟨z2, rfl⟩ := key 2 _ c (by decide) rfl rfl rfl
  obtain ⟨z3, rfl⟩ := key 3 _ d (by decide) rfl rfl rfl
  obtain ⟨z4, rfl⟩ := key 4 _ e (by decide) rfl rfl rfl
  obtain ⟨z5, rfl⟩ := key 5 _ f (by decide) rfl rfl rfl
  exact ⟨⟨z0, z1, z2, z3, z4, z5⟩, rfl⟩
theorem fr_sea {n : Nat} {cs : List Value} {x : DataW H × List MemPlace} (h : DataW.trod enc Tryz.prog W base spare held n 67 cs = some x) : ∃ s : Sea, cs = s.cells.toList := by
  obtain ⟨xs, m, _, rfl, hl, hlen, hf⟩ := DataW.trod_struct Tryz.underlying67 h
  rw [fcell67] at hl
  obtain ⟨a, b, c, d, e, f, g, i, j, rfl⟩ := fr_l9 hl
  have hlen' : xs.length = 4 := hlen
  have h0 : DataW.trod enc Tryz.prog W base spare held m 9 [a] = xs[0]? := by have := hf 0 _ rfl; simpa [fcell9] using this
  have h1 : DataW.trod enc Tryz.prog W base spare held m 3 [b] = xs[1]? := by have := hf 1 _ rfl; simpa [fcell3] using this
  have h2 : DataW.trod enc Tryz.prog W base spare held m 3 [c] = xs[2]? := by have := hf 2 _ rfl; simpa [fcell3] using this
  have h3 : DataW.trod enc Tryz.prog W base spare held m 59 [d, e, f, g, i, j] = xs[3]? := by have := hf 3 _ rfl; simpa [fcell59] using this
  obtain ⟨y0, e0⟩ := fr_at hlen' (i := 0) (by decide)
  obtain ⟨y1, e1⟩ := fr_at hlen' (i := 1) (by decide)
  obtain ⟨y2, e2⟩ := fr_at hlen' (i := 2) (by decide)
  obtain ⟨y3, e3⟩ := fr_at hlen' (i := 3) (by decide)
  rw [e0] at h0
  rw [e1] at h1
  rw [e2] at h2
  rw [e3] at h3
  obtain ⟨s, rfl⟩ := fr_str h0
  obtain ⟨z1, rfl⟩ := fr_int h1
  obtain ⟨z2, rfl⟩ := fr_int h2
  obtain ⟨t, ht0⟩ := fr_anc h3
  have ht : [d, e, f, g, i, j] = [.int .i64 t.k, .int .i64 t.m, .int .i64 t.d, .int .i64 t.o, .int .i64 t.wd, .int .i64 t.c] := ht0
  simp only [List.cons.injEq, and_true] at ht
  obtain ⟨rfl, rfl, rfl, rfl, rfl, rfl⟩ := ht
  exact ⟨⟨s, z1, z2, t⟩, rfl⟩
theorem fr_fea {n : Nat} {cs : List Value} {x : DataW H × List MemPlace} (h : DataW.trod enc Tryz.prog W base spare held n 63 cs = some x) : ∃ s : Fea, cs = s.cells.toList := by
  obtain ⟨xs, m, _, rfl, hl, hlen, hf⟩ := DataW.trod_struct Tryz.underlying63 h
  rw [fcell63] at hl
  obtain ⟨a, b, c, d, e, f, g, i, j, rfl⟩ := fr_l9 hl
  have hlen' : xs.length = 4 := hlen
  have h0 : DataW.trod enc Tryz.prog W base spare held m 9 [a] = xs[0]? := by have := hf 0 _ rfl; simpa [fcell9] using this
  have h1 : DataW.trod enc Tryz.prog W base spare held m 3 [b] = xs[1]? := by have := hf 1 _ rfl; simpa [fcell3] using this
  have h2 : DataW.trod enc Tryz.prog W base spare held m 3 [c] = xs[2]? := by have := hf 2 _ rfl; simpa [fcell3] using this
  have h3 : DataW.trod enc Tryz.prog W base spare held m 59 [d, e, f, g, i, j] = xs[3]? := by have := hf 3 _ rfl; simpa [fcell59] using this
  obtain ⟨y0, e0⟩ := fr_at hlen' (i := 0) (by decide)
  obtain ⟨y1, e1⟩ := fr_at hlen' (i := 1) (by decide)
  obtain ⟨y2, e2⟩ := fr_at hlen' (i := 2) (by decide)
  obtain ⟨y3, e3⟩ := fr_at hlen' (i := 3) (by decide)
  rw [e0] at h0
  rw [e1] at h1
  rw [e2] at h2
  rw [e3] at h3
  obtain ⟨s, rfl⟩ := fr_str h0
  obtain ⟨z1, rfl⟩ := fr_int h1
  obtain ⟨z2, rfl⟩ := fr_int h2
  obtain ⟨t, ht0⟩ := fr_anc h3
  have ht : [d, e, f, g, i, j] = [.int .i64 t.k, .int .i64 t.m, .int .i64 t.d, .int .i64 t.o, .int .i64 t.wd, .int .i64 t.c] := ht0
  simp only [List.cons.injEq, and_true] at ht
  obtain ⟨rfl, rfl, rfl, rfl, rfl, rfl⟩ := ht
  exact ⟨⟨s, z1, z2, t⟩, rfl⟩
theorem fr_row {p : Addr} {n : Nat} {cs : List Value} (h : W.cells? base p n = some cs) : RowIs W p cs.toArray := by
  unfold World.cells? at h
  split at h
  · intro j v hj
    have hl : cs.length = n := by
      have := mapM_some_length h
      simpa using this
    have hjn : j < n := by
      have := (Array.getElem?_eq_some_iff.1 hj).1
      simp at this; omega
    obtain ⟨b, hb, hf⟩ := Lib.mapM_at h j j (by simp [hjn])
    simp only [List.getElem?_toArray] at hj
    rw [hj] at hb
    cases hb
    unfold Addr.add at hf
    exact hf
  · cases h
theorem rows_seas {n : Nat} {c : Value} {x : DataW H × List MemPlace} (h : DataW.trod enc Tryz.prog W base spare held n 22 [c] = some x) : ∃ (A : Option Addr) (n1 c1 : Nat) (l : List Sea), c = .slice A n1 c1 ∧ n1 = l.length ∧ n1 ≤ c1 ∧ Rows9 W A (l.map Sea.cells) := by
  rcases open_slice Tryz.underlying22 h with ⟨h1, _⟩ | ⟨a, len, cap, m, n', D, Pl, h1, _, hl, _, hm, _, he⟩
  · simp only [List.cons.injEq, and_true] at h1
    exact ⟨none, 0, 0, [], h1, rfl, Nat.le_refl _, fun k cs hk => by cases hk⟩
  · simp only [List.cons.injEq, and_true] at h1
    have hlm : len ≤ m := by rw [hm]; split <;> omega
    haveI : Inhabited Sea := ⟨⟨ByteArray.empty, 0, 0, ⟨0, 0, 0, 0, 0, 0⟩⟩⟩
    obtain ⟨f, hf⟩ := choose_lt (n := len) (p := fun i (s : Sea) => RowIs W (a.add (i * 9)) s.cells) fun i hi => by
      obtain ⟨cs', h2, h3⟩ := he i (by omega)
      rw [fcell67] at h2
      obtain ⟨s, rfl⟩ := fr_sea h3
      exact ⟨s, fr_row h2⟩
    refine ⟨some a, len, cap, (List.range len).map f, h1, by simp, hl, fun k cs hk => ?_⟩
    have hkl : k < len := by
      have := (List.getElem?_eq_some_iff.1 hk).1
      simpa using this
    simp [hkl] at hk
    subst hk
    exact ⟨a, rfl, hf k hkl⟩
theorem rows_feas {n : Nat} {c : Value} {x : DataW H × List MemPlace} (h : DataW.trod enc Tryz.prog W base spare held n 23 [c] = some x) : ∃ (A : Option Addr) (n1 c1 : Nat) (l : List Fea), c = .slice A n1 c1 ∧ n1 = l.length ∧ n1 ≤ c1 ∧ Rows9 W A (l.map Fea.cells) := by
  rcases open_slice Tryz.underlying23 h with ⟨h1, _⟩ | ⟨a, len, cap, m, n', D, Pl, h1, _, hl, _, hm, _, he⟩
  · simp only [List.cons.injEq, and_true] at h1
    exact ⟨none, 0, 0, [], h1, rfl, Nat.le_refl _, fun k cs hk => by cases hk⟩
  · simp only [List.cons.injEq, and_true] at h1
    have hlm : len ≤ m := by rw [hm]; split <;> omega
    haveI : Inhabited Fea := ⟨⟨ByteArray.empty, 0, 0, ⟨0, 0, 0, 0, 0, 0⟩⟩⟩
    obtain ⟨f, hf⟩ := choose_lt (n := len) (p := fun i (s : Fea) => RowIs W (a.add (i * 9)) s.cells) fun i hi => by
      obtain ⟨cs', h2, h3⟩ := he i (by omega)
      rw [fcell63] at h2
      obtain ⟨s, rfl⟩ := fr_fea h3
      exact ⟨s, fr_row h2⟩
    refine ⟨some a, len, cap, (List.range len).map f, h1, by simp, hl, fun k cs hk => ?_⟩
    have hkl : k < len := by
      have := (List.getElem?_eq_some_iff.1 hk).1
      simpa using this
    simp [hkl] at hk
    subst hk
    exact ⟨a, rfl, hf k hkl⟩
set_option maxRecDepth 100000 in
/-- A catalogue that was handed in, by its cells. -/
theorem cat_open {r : Reach} {b0 : Nat} {v : Value} {d : DataW H} {p : List MemPlace} (hv : Value.okWide Tryz.prog W r b0 25 v) (h : DataW.Trod enc Tryz.prog W base spare held 25 v d p) :
    ∃ (C : Cat) (A1 : Option Addr) (n1 c1 : Nat) (A2 : Option Addr) (n2 c2 : Nat), v = .agg #[.int .i64 C.free, .slice A1 n1 c1, .slice A2 n2 c2] ∧ CatIn W C A1 n1 c1 A2 n2 c2 := by
  obtain ⟨v0, v1, v2, y0, y1, y2, n, rfl, _, _, h0, h1, h2⟩ := open_agg3 Tryz.underlying25 (by kernel_rfl) fcell25 hv h
  obtain ⟨f, rfl⟩ := fr_int h0
  obtain ⟨A1, n1, c1, l1, rfl, e1, g1, r1⟩ := rows_seas h1
  obtain ⟨A2, n2, c2, l2, rfl, e2, g2, r2⟩ := rows_feas h2
  exact ⟨⟨f, l1, l2⟩, A1, n1, c1, A2, n2, c2, rfl, e1, e2, g1, g2, r1, r2⟩
set_option maxRecDepth 100000 in
/-- An anchor that was handed in. -/
theorem anc_open {r : Reach} {b0 : Nat} {v : Value} {d : DataW H} {p : List MemPlace} (hv : Value.okWide Tryz.prog W r b0 59 v) (h : DataW.Trod enc Tryz.prog W base spare held 59 v d p) :
    ∃ t : AncT, v = .agg #[.int .i64 t.k, .int .i64 t.m, .int .i64 t.d, .int .i64 t.o, .int .i64 t.wd, .int .i64 t.c] := by
  obtain ⟨cs, rfl, hsz⟩ := okWide_struct Tryz.underlying59 hv
  obtain ⟨fuel, hf⟩ := h
  obtain ⟨t, ht⟩ := fr_anc hf
  refine ⟨t, ?_⟩
  have : cs.toList = _ := ht
  rw [show cs = cs.toList.toArray by simp, this]
end
theorem fkids : Kids Tryz.prog (· < (Tryz.prog).types.size) := kids_rows (by kernel_rfl) (by kernel_rfl)
theorem ffull : ∀ t e, t < (Tryz.prog).types.size → (Tryz.prog).underlying t = some (.slice e) → 0 < (Tryz.prog).cellsOf e := slices_full_of Tryz.prog (by kernel_rfl)
end Go.Proofs.YtdgaflcnigljlaaGreatDoor
