/-
  Contracts and plain facts for the laws on the whole program: the parts below say each what they are. No further condition.
-/
import Derived.Test.YtdgaflcnigljlaaGreatDoorS12
import Derived.RangeFuncNested
import Derived.RangeFuncBound
import Derived.RangeFuncCalls
import Derived.RangeFuncLeaves
import Derived.OwnWalkIn
import Derived.TacticsInMore
import Derived.LoopNIn
import Derived.LoopIn
import Derived.Shelf.Abstract
/-
  The last element of a list of starts that satisfies a condition (a range over a function): the iterator's contract, the walk. No further condition.
-/
namespace Go.Proofs.YtdgaflcnigljlaaGreatDoor
open Go.RowKit Go.Proofs Go.Proofs.YtdgaflcnigljlaaGreatDoorW.PrintWords
set_option linter.unusedVariables false
attribute [local go_sem] Oper.semAt_some
/-- The elements from the end, with their indices. -/
def bk (l : List (Int × Int)) : List (Int × (Int × Int)) := (l.zipIdx.map fun p => ((p.2 : Int), p.1)).reverse
theorem bk_len (l : List (Int × Int)) : (bk l).length = l.length := by simp [bk]
theorem bk_at (l : List (Int × Int)) (j : Nat) (p : Int × Int) (h : l[j]? = some p) : (bk l)[l.length - 1 - j]? = some ((j : Int), p) := by
  have hj : j < l.length := (List.getElem?_eq_some_iff.1 h).1
  unfold bk
  rw [List.getElem?_reverse (by simp; omega)]
  simp only [List.length_map, List.length_zipIdx, List.getElem?_map]
  rw [show l.length - 1 - (l.length - 1 - j) = j by omega, List.getElem?_zipIdx, h]
  simp
theorem bk_take (l : List (Int × Int)) (j : Nat) (p : Int × Int) (h : l[j]? = some p) : (bk l).take (l.length - 1 - j) ++ [((j : Int), p)] = (bk l).take (l.length - j) := by
  have hj : j < l.length := (List.getElem?_eq_some_iff.1 h).1
  rw [show l.length - j = (l.length - 1 - j) + 1 by omega, List.take_add_one, bk_at l j p h]; rfl
def encB (x : Int × (Int × Int)) : Array Value := #[.int .i64 x.1, .agg #[.int .i64 x.2.1, .int .i64 x.2.2]]
def rowsAt (w : World) (g : Nat) (l : List (Int × Int)) : Prop := ∀ (k : Nat) (p : Int × Int), l[k]? = some p → w.cell? ⟨g, k * 2, none⟩ = some (.int .i64 p.1) ∧ w.cell? ⟨g, k * 2 + 1, none⟩ = some (.int .i64 p.2)
theorem rowsAt.below {w W : World} {g n₀ : Nat} {l : List (Int × Int)} (h : rowsAt w g l) (hb : Below n₀ w W) (hg : g < n₀) : rowsAt W g l := fun k p hk =>
  ⟨(hb.cell (p := ⟨g, k * 2, none⟩) hg).trans (h k p hk).1, (hb.cell (p := ⟨g, k * 2 + 1, none⟩) hg).trans (h k p hk).2⟩
set_option maxRecDepth 100000 in
set_option maxHeartbeats 1000000 in
theorem bw1_in (F : Fence) (n : Nat) (h6 : F.fn 230) (hro : F.round = none) (hn : 1 ≤ n) (l Bn n₀ g cap : Nat) (xs : List (Int × Int)) (h8 : xs.length ≤ 1000) (J Jx : List (Int × (Int × Int)) → World → Prop)
    (hY : ∀ pre x W, J pre W → pre.length < xs.length → YieldAt F (n - 1) Tryz.prog l #[.int .i64 x.1, .agg #[.int .i64 x.2.1, .int .i64 x.2.2]] W fun e W' =>
      (e = .returned (.bool true) ∧ J (pre ++ [x]) W' ∧ Below n₀ W W') ∨ (e = .returned (.bool false) ∧ Jx (pre ++ [x]) W'))
    (W : World) (hBn : W.cell? ⟨Bn, 0, none⟩ = some (.slice (some ⟨g, 0, none⟩) xs.length cap)) (hB1 : Bn < n₀) (hL : Hid (rowsAt W g xs)) (hg : g < n₀) (h0 : J [] W) :
    CallsIn F n Tryz.prog 230 #[.func (.yield l) #[] #[], .pointer (some ⟨Bn, 0, none⟩)] W fun e W' => (∃ v, e = .returned v) ∧
      ((∃ ys, ys = bk xs ∧ J ys W') ∨ (∃ pre, pre <+: bk xs ∧ Jx pre W')) := by
  refine callsIn_of_wp Tryz.func230 rfl h6 ?_ hro
  simp only [Tryz.ntmps230, List.size_toArray, List.length_cons, List.length_nil, Nat.reduceAdd, Nat.reduceSub, Array.replicate_succ, Array.replicate_zero, List.push_toArray, List.append_toArray, List.nil_append, List.cons_append]
  gi_wp2
  gi_loopw [3] (fun p wr => ∃ (m : Int), -1 ≤ m ∧ m < xs.length ∧ p = .int .i64 m ∧ J ((bk xs).take (xs.length - 1 - m).toNat) wr ∧ Below n₀ W wr)
    (fun p _ => (intOf p + 1).toNat)
  case atStart =>
    exact ⟨(xs.length : Int) - 1, by omega, by omega, by go_num, by rw [show ((xs.length : Int) - 1 - ((xs.length : Int) - 1)).toNat = 0 by omega]; exact h0, Below.refl _ _⟩
  case round =>
    obtain ⟨m, m1, m2, rfl, hJs, hnx⟩ := hrel
    by_cases hm : 0 ≤ m
    · obtain ⟨j, rfl⟩ : ∃ j : Nat, m = j := ⟨m.toNat, by omega⟩
      have hj : j < xs.length := by omega
      obtain ⟨p, hp⟩ : ∃ p, xs[j]? = some p := ⟨_, List.getElem?_eq_getElem hj⟩
      rw [show ((xs.length : Int) - 1 - (j : Int)).toNat = xs.length - 1 - j by omega] at hJs
      obtain ⟨c1, c2⟩ := (hL.out.below hnx hg) j p hp
      have hc := (hnx.cell (p := ⟨Bn, 0, none⟩) hB1).trans hBn
      have TK := Lib.hid (bk_take xs j p hp)
      clear hp
      obtain ⟨fn, tmps, assign, body, hy, hR⟩ := hY _ ((j : Int), p) wr hJs (by rw [List.length_take, bk_len]; omega)
      dsimp only at hy
      gi_wp2
      refine hR.mono ?_
      rintro e W3 (⟨rfl, hJ3, hk3⟩ | ⟨rfl, hJx3⟩)
      · gi_wp2
        go_roundw
        case rel => exact ⟨(j : Int) - 1, by omega, by omega, by go_num, by rw [TK.out] at hJ3; rw [show ((xs.length : Int) - 1 - ((j : Int) - 1)).toNat = xs.length - j by omega]; exact hJ3, hnx.trans hk3⟩
        case measure => simp [intOf]
      · gi_wp2
        refine bodyPost_ret (results_none rfl _ _ _) rfl ?_
        exact ⟨⟨_, rfl⟩, .inr ⟨_, by rw [TK.out]; exact List.take_prefix _ _, hJx3⟩⟩
    · obtain rfl : m = -1 := by omega
      gi_wp2
      go_end0
      rw [show ((xs.length : Int) - 1 - (-1)).toNat = xs.length by omega, List.take_of_length_le (by rw [bk_len]; exact Nat.le_refl _)] at hJs
      exact ⟨⟨_, rfl⟩, .inl hJs⟩
theorem bw_c (F : Fence) (n : Nat) (h5 : F.fn 209) (hro : F.round = none) (A : Option Addr) (k c : Nat) (w : World) :
    CallsIn F n Tryz.prog 209 #[.slice A k c] w fun e w' => e = .returned (.func (.func 230) #[] #[.pointer (some ⟨w.heap.size, 0, none⟩)]) ∧ w' = w.alloc (.cells #[.slice A k c] 235) := by
  refine callsIn_of_wp Tryz.func209 rfl h5 ?_ hro
  simp only [Tryz.ntmps209, List.size_toArray, List.length_cons, List.length_nil, Nat.reduceAdd, Nat.reduceSub, Array.replicate_succ, Array.replicate_zero, List.push_toArray, List.append_toArray, List.nil_append, List.cons_append]
  gi_wp2
  go_ret
  exact ⟨rfl, rfl⟩
theorem bw_stops (F : Fence) (n : Nat) (h6 : F.fn 230) (hro : F.round = none) (hn : 1 ≤ n) (Bn n₀ g cap : Nat) (xs : List (Int × Int)) (h8 : xs.length ≤ 1000) (w : World) (hBn : Bn < w.heap.size) (hg : g < n₀) (hB1 : Bn < n₀) (hn₀ : n₀ ≤ w.heap.size)
    (hc : w.cell? ⟨Bn, 0, none⟩ = some (.slice (some ⟨g, 0, none⟩) xs.length cap)) (hL : rowsAt w g xs) :
    SeqStopsK F n Tryz.prog 230 #[.pointer (some ⟨Bn, 0, none⟩)] (fun x : Int × (Int × Int) => #[.int .i64 x.1, .agg #[.int .i64 x.2.1, .int .i64 x.2.2]]) (Below n₀) (fun ys => ys = bk xs) (fun pre => pre <+: bk xs) xs.length w := fun l J Jx W hW _ _ hY h0 =>
  bw1_in F n h6 hro hn l Bn n₀ g cap xs h8 J Jx hY W ((hW.cell (p := ⟨Bn, 0, none⟩) hBn).trans hc) hB1 (Lib.hid (hL.below hW (Nat.lt_of_lt_of_le hg hn₀))) hg h0
theorem fd2_c (a b d : Int) (Bd : Nat) (w : World) (hB : Hid (Blk w Bd #[.int .i64 d] 3)) : Calls Tryz.prog 181 #[.agg #[.int .i64 a, .int .i64 b], .pointer (some ⟨Bd, 0, none⟩)] w fun e w' => e = .returned (.bool (decide (a ≤ d))) ∧ Below w.heap.size w w' := by
  have h2 := (hB.out.alloc (.cells #[.int .i64 a, .int .i64 b] 193)).c1
  obtain ⟨h3, h4⟩ := h2
  have blt := hB.out.lt
  go_enter Tryz.func181, Tryz.ntmps181
  go_wp2
  go_ret
  exact ⟨rfl, (Below.refl _ _).alloc (Nat.le_refl _) _⟩
/-- What the loop keeps in its cells. -/
structure LsBox (w W : World) (hv : Value) (x : Int × Int) (ok : Bool) : Prop where
  bel : Below w.heap.size w W
  b0 : Blk W w.heap.size #[hv] 240
  b1 : Blk W (w.heap.size + 1) #[.int .i64 x.1, .int .i64 x.2] 193
  b2 : Blk W (w.heap.size + 1 + 1) #[.bool ok] 4
theorem LsBox.below {w W W2 : World} {hv : Value} {x : Int × Int} {ok : Bool} (h : LsBox w W hv x ok) (hb : Below W.heap.size W W2) : LsBox w W2 hv x ok := ⟨below_then h.bel h.bel.size hb, h.b0.below hb, h.b1.below hb, h.b2.below hb⟩
theorem Blk.kept {w W : World} {g : Nat} {cs : Array Value} {t : TypeId} (h : Blk w g cs t) {row : Option Nat} (hg : w.grownBy W row) (hr : ∀ r, row = some r → ∃ o : Obj, w.heap[r]? = some o ∧ o.isCells = false) : Blk W g cs t :=
  (hg.block g h.lt (fun e => by obtain ⟨o, ho, hc⟩ := hr g e.symm; rw [show w.heap[g]? = _ from h] at ho; cases ho; cases hc)).trans h
theorem LsBox.own {β : Type} (w : World) (B : Nat) (hB : w.heap.size ≤ B) (hv : Value) (x : Int × Int) (ok : Bool) : OwnFrom B (fun (_ : β) W => LsBox w W hv x ok) := fun s X Y row hs hg hr =>
  ⟨hs.bel.grown hg (by have := hs.bel.size; omega) (fun k e => Nat.le_trans hB (hr k e).1), hs.b0.kept hg (fun r e => (hr r e).2), hs.b1.kept hg (fun r e => (hr r e).2), hs.b2.kept hg (fun r e => (hr r e).2)⟩
theorem LsBox.put {w W : World} {hv : Value} {x : Int × Int} {ok : Bool} (h : LsBox w W hv x ok) (y : Int × Int) (ok' : Bool) : LsBox w (((W.setCell ⟨w.heap.size + 1, 0, none⟩ (.int .i64 y.1)).setCell ⟨w.heap.size + 1, 1, none⟩ (.int .i64 y.2)).setCell ⟨w.heap.size + 1 + 1, 0, none⟩ (.bool ok')) hv y ok' :=
  ⟨((h.bel.setCell (p := ⟨w.heap.size + 1, 0, none⟩) (Nat.le_succ _) _).setCell (p := ⟨w.heap.size + 1, 1, none⟩) (Nat.le_succ _) _).setCell (p := ⟨w.heap.size + 1 + 1, 0, none⟩) (by simp; omega) _,
    ((h.b0.far (by simp) _).far (by simp) _).far (by simp; omega) _, ((h.b1.put 0 _ rfl).put 1 _ rfl).far (by simp) _, ((h.b2.far (by simp) _).far (by simp) _).put 0 _ rfl⟩
theorem keepsFrom_of_below {B : Nat} {W W' : World} (h : Below W.heap.size W W') : KeepsFrom B W W' := ⟨h.size, fun k o _ hk _ => (h.block k (Array.getElem?_eq_some_iff.1 hk).1).trans hk⟩
/-- Which element it is. -/
def LsHit (d : Int) (xs : List (Int × Int)) (x : Int × Int) : Prop := x.1 ≤ d ∧ ∃ A B, xs = A ++ x :: B ∧ ∀ p ∈ B, ¬ p.1 ≤ d
def LsRes (d : Int) (xs : List (Int × Int)) (e : Ending) : Prop := (e = .returned (.tuple #[.agg #[.int .i64 0, .int .i64 0], .bool false]) ∧ ∀ p ∈ xs, ¬ p.1 ≤ d) ∨ ∃ x : Int × Int, e = .returned (.tuple #[.agg #[.int .i64 x.1, .int .i64 x.2], .bool true]) ∧ LsHit d xs x
structure LsI (w W0 : World) (hv : Value) (d : Int) (pre : List (Int × (Int × Int))) (W : World) : Prop where
  box : LsBox w W hv (0, 0) false
  bel : Below W0.heap.size W0 W
  non : ∀ p ∈ pre, ¬ p.2.1 ≤ d
structure LsX (w : World) (hv : Value) (d : Int) (c : Code) (pre : List (Int × (Int × Int))) (q : List (Int × (Int × Int))) (x : Int × (Int × Int)) (W : World) : Prop where
  box : LsBox w W hv x.2 true
  ret : c = .ret
  eq : pre = q ++ [x]
  hit : x.2.1 ≤ d
  non : ∀ p ∈ q, ¬ p.2.1 ≤ d
def LsXX (w : World) (hv : Value) (d : Int) (c : Code) (pre : List (Int × (Int × Int))) (W : World) : Prop := ∃ q x, LsX w hv d c pre q x W
theorem bk_hit {d : Int} {xs : List (Int × Int)} {q : List (Int × (Int × Int))} {x : Int × (Int × Int)} (h : q ++ [x] <+: bk xs) (hx : x.2.1 ≤ d) (hq : ∀ p ∈ q, ¬ p.2.1 ≤ d) : LsHit d xs x.2 := by
  obtain ⟨r, hr⟩ := h
  have e : (bk xs).map (·.2) = xs.reverse := by
    unfold bk
    rw [List.map_reverse, List.map_map]
    congr 1
    exact List.zipIdx_map_fst 0 xs
  have e2 : xs = (r.map (·.2)).reverse ++ x.2 :: (q.map (·.2)).reverse := by
    have := congrArg List.reverse e
    rw [List.reverse_reverse, ← hr] at this
    rw [← this]
    simp
  refine ⟨hx, _, _, e2, fun p hp => ?_⟩
  obtain ⟨y, hy, rfl⟩ := List.mem_map.1 (List.mem_reverse.1 hp)
  exact hq y hy
theorem bk_none {d : Int} {xs : List (Int × Int)} (h : ∀ p ∈ bk xs, ¬ p.2.1 ≤ d) : ∀ p ∈ xs, ¬ p.1 ≤ d := fun p hp => by
  obtain ⟨j, hj, e⟩ := List.getElem_of_mem hp
  exact h ((j : Int), p) (List.mem_of_getElem? (bk_at xs j p (by rw [List.getElem?_eq_getElem hj, e])))
set_option maxRecDepth 100000 in
set_option maxHeartbeats 2000000 in
theorem last_in (n : Nat) (hn : 6 ≤ n) (g cap Bd : Nat) (d : Int) (xs : List (Int × Int)) (h8 : xs.length ≤ 1000) (w : World) (hL : Hid (rowsAt w g xs)) (hg : g < w.heap.size) (hd : Hid (Blk w Bd #[.int .i64 d] 3)) :
    CallsIn Fence.wide n Tryz.prog 180 #[.slice (some ⟨g, 0, none⟩) xs.length cap, .func (.func 181) #[] #[.pointer (some ⟨Bd, 0, none⟩)]] w fun e w' =>
      LsRes d xs e ∧ Below w.heap.size w w' := by
  have hn1 : 1 ≤ n := by omega
  have blt := hd.out.lt
  have hro : Fence.wide.round = none := rfl
  refine callsIn_of_wp_marks Tryz.func180 rfl trivial ?_ hro
  simp only [Tryz.ntmps180, List.size_toArray, List.length_cons, List.length_nil, Nat.reduceAdd, Nat.reduceSub, Array.replicate_succ, Array.replicate_zero, List.push_toArray, List.append_toArray, List.nil_append, List.cons_append]
  gi_wp2_with (refine ⟨trivial, ?_⟩; gi_at_call 209; refine (bw_c Fence.wide (n - 1) trivial hro _ _ _ _).mono ?_; rintro e w' ⟨rfl, rfl⟩)
  obtain ⟨hv, hhv⟩ : ∃ hv, Value.func (Fn.func 181) #[] #[Value.pointer (some ⟨Bd, 0, none⟩)] = hv := ⟨_, rfl⟩
  have HB : LsBox w ((((w.alloc (.cells #[.func (.func 181) #[] #[.pointer (some ⟨Bd, 0, none⟩)]] 240)).alloc (.cells #[.int .i64 0, .int .i64 0] 193)).alloc (.cells #[.bool false] 4)).alloc (.cells #[.slice (some ⟨g, 0, none⟩) xs.length cap] 235)) (.func (.func 181) #[] #[.pointer (some ⟨Bd, 0, none⟩)]) (0, 0) false :=
    ⟨((((Below.refl _ _).alloc (Nat.le_refl _) _).alloc (by simp) _).alloc (by simp; omega) _).alloc (by simp; omega) _, (((Blk.new w _ _).alloc _).alloc _).alloc _, ((Blk.new2 w _ _ _).alloc _).alloc _, (Blk.new3 w _ _ _ _).alloc _⟩
  have HS : Blk ((((w.alloc (.cells #[.func (.func 181) #[] #[.pointer (some ⟨Bd, 0, none⟩)]] 240)).alloc (.cells #[.int .i64 0, .int .i64 0] 193)).alloc (.cells #[.bool false] 4)).alloc (.cells #[.slice (some ⟨g, 0, none⟩) xs.length cap] 235)) (w.heap.size + 1 + 1 + 1) #[.slice (some ⟨g, 0, none⟩) xs.length cap] 235 := by
    have := Blk.new3 (w.alloc (.cells #[.func (.func 181) #[] #[.pointer (some ⟨Bd, 0, none⟩)]] 240)) (.cells #[.int .i64 0, .int .i64 0] 193) (.cells #[.bool false] 4) #[.slice (some ⟨g, 0, none⟩) xs.length cap] 235
    simpa using this
  generalize ((((w.alloc (.cells #[.func (.func 181) #[] #[.pointer (some ⟨Bd, 0, none⟩)]] 240)).alloc (.cells #[.int .i64 0, .int .i64 0] 193)).alloc (.cells #[.bool false] 4)).alloc (.cells #[.slice (some ⟨g, 0, none⟩) xs.length cap] 235)) = W0 at HB HS ⊢
  have hsz : w.heap.size + 1 + 1 + 1 < W0.heap.size := HS.lt
  rw [hhv] at HB
  refine wpIn_rangeFunc_ownH hro hn1 (gf := 230) (lb := #[.pointer (some ⟨w.heap.size + 1 + 1 + 1, 0, none⟩)]) rfl trivial (enters_of Tryz.func230 (by kernel_rfl) rfl)
    (bw_stops Fence.wide (n - 1) trivial hro (by omega) (w.heap.size + 1 + 1 + 1) W0.heap.size g cap xs h8 W0 hsz (by omega) hsz (Nat.le_refl _) HS.c1.1 (hL.out.below HB.bel hg)) belowK_t (belowK_b (Nat.le_refl _)) (Below.refl _ _) (fun _ => rfl)
    (LsI w W0 hv d) (LsXX w hv d)
    (fun pre X Y row h hg hr => ⟨LsBox.own (β := Unit) w W0.heap.size (by omega) hv (0, 0) false () X Y row h.box hg hr, ownFrom_below (β := Unit) (Nat.le_refl _) (Nat.le_refl _) () X Y row h.bel hg hr, h.non⟩)
    (fun c pre X Y row h hg hr => by obtain ⟨q, x, h⟩ := h; exact ⟨q, x, LsBox.own (β := Unit) w W0.heap.size (by omega) hv x.2 true () X Y row h.box hg hr, h.ret, h.eq, h.hit, h.non⟩)
    ⟨HB, Below.refl _ _, by simp⟩
    (fun x a' W => ∃ Bx, w.heap.size + 1 + 1 + 1 < Bx ∧ Blk W Bx #[.int .i64 x.2.1, .int .i64 x.2.2] 193 ∧ a' = { tmps := #[.slice (some ⟨g, 0, none⟩) xs.length cap, hv, undef, .pointer (some ⟨w.heap.size, 0, none⟩), .pointer (some ⟨w.heap.size + 1, 0, none⟩), .pointer (some ⟨w.heap.size + 1 + 1, 0, none⟩), undef, .pointer (some ⟨Bx, 0, none⟩), undef, .slice (some ⟨g, 0, none⟩) xs.length cap, .func (.func 230) #[] #[.pointer (some ⟨w.heap.size + 1 + 1 + 1, 0, none⟩)], .int .i64 x.1, .agg #[.int .i64 x.2.1, .int .i64 x.2.2], undef, undef, undef, undef, undef], defers := [] })
    (fun x a' _ X Y row hs hg hr => by obtain ⟨Bx, h1, h2, h3⟩ := hs; exact ⟨Bx, h1, h2.kept hg (fun r e => (hr r e).2), h3⟩)
    ?assign ?body ?done ?stop
  case assign =>
    rintro l pre x W K hI hK
    have sz := hI.bel.size
    have HI := Lib.hid hI
    clear hI
    subst hhv
    gi_wp2
    exact hK _ _ ((KeepsOthers.alloc _ _).from _) ((Below.refl _ W).alloc sz _) ⟨HI.out.box.below ((Below.refl _ W).alloc (Nat.le_refl _) _), HI.out.bel.alloc sz _, HI.out.non⟩ ⟨W.heap.size, by omega, Blk.new _ _ _, rfl⟩
  case body =>
    rintro l pre x a' W hl _ hI ⟨Bx, hBx, bX, rfl⟩ _
    have sz := hI.bel.size
    obtain ⟨c0, f0⟩ := hI.box.b0.c1
    obtain ⟨⟨c1, c2⟩, c3, c4⟩ := bX.c2
    have HD := Lib.hid (hd.out.below hI.box.bel)
    have HX := Lib.hid bX
    have HI := Lib.hid hI
    clear bX hI
    subst hhv
    by_cases hx : x.2.1 ≤ d
    · have t0 : decide (x.2.1 ≤ d) = true := by simp [hx]
      gi_wp2_with (refine ⟨trivial, fun _ => (by omega), ?_⟩; refine (CallsIn.inRound l (callsIn_wide.2 (fd2_c x.2.1 x.2.2 d Bd W HD))).mono ?_; rintro e w1 ⟨rfl, hw⟩; have hb1 := HI.out.box.below hw; have bX1 := HX.out.below hw; obtain ⟨⟨d1, d2⟩, d3, d4⟩ := bX1.c2; obtain ⟨⟨e1, e2⟩, e3, e4⟩ := hb1.b1.c2; obtain ⟨g1, g2⟩ := hb1.b2.c1; have HW := Lib.hid hw; clear hw)
      exact ⟨((keepsFrom_of_below HW.out).trans ((KeepsOthers.setCell _ _ _).from _)).trans (((KeepsOthers.setCell _ _ _).from _).trans ((KeepsOthers.setCell _ _ _).from _)), pre, x, hb1.put x.2 true, rfl, rfl, hx, HI.out.non⟩
    · have t0 : decide (x.2.1 ≤ d) = false := by simpa using hx
      gi_wp2_with (refine ⟨trivial, fun _ => (by omega), ?_⟩; refine (CallsIn.inRound l (callsIn_wide.2 (fd2_c x.2.1 x.2.2 d Bd W HD))).mono ?_; rintro e w1 ⟨rfl, hw⟩; have hb1 := HI.out.box.below hw; have HW := Lib.hid hw; clear hw)
      refine ⟨keepsFrom_of_below HW.out, HW.out.mono sz, hb1, HI.out.bel.trans (HW.out.mono sz), fun p hp => ?_⟩
      rcases List.mem_append.1 hp with hp | hp
      · exact HI.out.non p hp
      · simp at hp; subst hp; omega
  case done =>
    rintro D ys W hD rfl hI hK
    have sz := hI.bel.size
    obtain ⟨⟨e1, e2⟩, e3, e4⟩ := hI.box.b1.c2
    obtain ⟨g1, g2⟩ := hI.box.b2.c1
    have l1 := hI.box.b1.lt
    have l2 := hI.box.b2.lt
    have HI := Lib.hid hI
    clear hI
    gi_wp2
    have hK' := ((((KeepsOthers.setCell W ⟨w.heap.size + 1, 0, none⟩ (.int .i64 0)).trans (KeepsOthers.setCell _ ⟨w.heap.size + 1, 1, none⟩ (.int .i64 0))).trans (KeepsOthers.setCell _ ⟨w.heap.size + 1 + 1, 0, none⟩ (.bool false))).trans (KeepsOthers.alloc _ (.cells #[.int .i64 0, .int .i64 0] 193))).same D _ hK rfl
    have hb1 := (HI.out.box.put (0, 0) false).below ((Below.refl _ _).alloc (Nat.le_refl _) (.cells #[.int .i64 0, .int .i64 0] 193))
    have HF := LsBox.own (β := Unit) w w.heap.size (Nat.le_refl _) hv (0, 0) false () _ _ (some D) hb1 (grownBy_putObj' _ D (.deferred none)) (fun r e => by cases e; exact ⟨by omega, _, hK', rfl⟩)
    obtain ⟨⟨m1, m2⟩, _⟩ := HF.b1.c2
    obtain ⟨m3, _⟩ := HF.b2.c1
    refine ⟨by simp, .inl ⟨_, _, rfl, run_takeDeferred hK', ?_⟩⟩
    refine ⟨.tuple #[.agg #[.int .i64 0, .int .i64 0], .bool false], ?_, .inl ⟨rfl, bk_none HI.out.non⟩, HF.bel⟩
    simp [results, Tryz.f180, go_sem, m1, m2, m3]
  case stop =>
    rintro D c pre W hD hpre ⟨q, x, hX⟩ hK
    obtain rfl := hX.ret
    obtain rfl := hX.eq
    have HX := Lib.hid hX
    have HP := Lib.hid hpre
    clear hX hpre
    gi_wp2
    have HF := LsBox.own (β := Unit) w w.heap.size (Nat.le_refl _) hv x.2 true () _ _ (some D) HX.out.box (grownBy_putObj' _ D (.deferred none)) (fun r e => by cases e; exact ⟨by omega, _, hK, rfl⟩)
    obtain ⟨⟨m1, m2⟩, _⟩ := HF.b1.c2
    obtain ⟨m3, _⟩ := HF.b2.c1
    refine ⟨by simp, .inl ⟨_, _, rfl, run_takeDeferred hK, ?_⟩⟩
    refine ⟨.tuple #[.agg #[.int .i64 x.2.1, .int .i64 x.2.2], .bool true], ?_, .inr ⟨x.2, rfl, bk_hit HP.out HX.out.hit HX.out.non⟩, HF.bel⟩
    simp [results, Tryz.f180, go_sem, m1, m2, m3]
theorem last_c (g cap Bd : Nat) (d : Int) (xs : List (Int × Int)) (h8 : xs.length ≤ 1000) (w : World) (hL : Hid (rowsAt w g xs)) (hg : g < w.heap.size) (hd : Hid (Blk w Bd #[.int .i64 d] 3)) :
    Calls Tryz.prog 180 #[.slice (some ⟨g, 0, none⟩) xs.length cap, .func (.func 181) #[] #[.pointer (some ⟨Bd, 0, none⟩)]] w fun e w' => LsRes d xs e ∧ Below w.heap.size w w' :=
  callsIn_wide.1 (last_in 6 (Nat.le_refl _) g cap Bd d xs h8 w hL hg hd)
theorem last_n (g cap n Bd : Nat) (d : Int) (xs : List (Int × Int)) (hn : n = xs.length) (h8 : n ≤ 1000) (w : World) (hL : Hid (rowsAt w g xs)) (hg : g < w.heap.size) (hd : Hid (Blk w Bd #[.int .i64 d] 3)) :
    Calls Tryz.prog 180 #[.slice (some ⟨g, 0, none⟩) n cap, .func (.func 181) #[] #[.pointer (some ⟨Bd, 0, none⟩)]] w fun e w' => LsRes d xs e ∧ Below w.heap.size w w' := by
  subst hn
  exact last_c g cap Bd d xs h8 w hL hg hd
end Go.Proofs.YtdgaflcnigljlaaGreatDoor
/-
  The season of a day: plain laws. No further condition.
-/
namespace Go.Proofs.YtdgaflcnigljlaaGreatDoor
open Go.RowKit
set_option linter.unusedVariables false
/-- The greatest by day, the younger index where two begin on one day. -/
def best : List (Int × Int) → Option (Int × Int)
  | [] => none
  | p :: l => match best l with
    | none => some p
    | some q => if q.1 < p.1 then some p else some q
def IsMax (L : List (Int × Int)) (s : Int × Int) : Prop := s ∈ L ∧ ∀ p ∈ L, p = s ∨ Lex p s
theorem best_none {L : List (Int × Int)} (h : best L = none) : L = [] := by
  cases L with
  | nil => rfl
  | cons p l => simp only [best] at h; split at h <;> (try split at h) <;> cases h
theorem best_spec {L : List (Int × Int)} (hi : L.Pairwise (fun a b => a.2 < b.2)) {s : Int × Int} (h : best L = some s) : IsMax L s := by
  induction L generalizing s with
  | nil => cases h
  | cons p l ih =>
    obtain ⟨h1, h2⟩ := List.pairwise_cons.1 hi
    simp only [best] at h
    split at h
    · rename_i hb
      have := best_none hb; subst this
      cases h
      exact ⟨.head _, fun q hq => .inl (by simpa using hq)⟩
    · rename_i q hb
      obtain ⟨m1, m2⟩ := ih h2 hb
      split at h
      · rename_i hlt
        cases h
        refine ⟨.head _, fun r hr => ?_⟩
        rcases List.mem_cons.1 hr with rfl | hr
        · exact .inl rfl
        · rcases m2 r hr with rfl | hr
          · exact .inr (.inl hlt)
          · rcases hr with hr | hr
            · exact .inr (.inl (by omega))
            · exact .inr (.inl (by omega))
      · rename_i hlt
        cases h
        refine ⟨.tail _ m1, fun r hr => ?_⟩
        rcases List.mem_cons.1 hr with rfl | hr
        · have := h1 _ m1
          rcases Int.lt_or_eq_of_le (Int.not_lt.1 hlt) with t | t
          · exact .inr (.inl t)
          · exact .inr (.inr ⟨t, this⟩)
        · exact m2 r hr
theorem IsMax.uniq {L : List (Int × Int)} {s t : Int × Int} (h : IsMax L s) (g : IsMax L t) : s = t := by
  rcases g.2 s h.1 with e | e
  · exact e
  · rcases h.2 t g.1 with e' | e'
    · exact e'.symm
    · exfalso
      rcases e with e | ⟨e, e2⟩ <;> rcases e' with e' | ⟨e', e2'⟩ <;> omega
theorem best_eq {L : List (Int × Int)} (hi : L.Pairwise (fun a b => a.2 < b.2)) {s : Int × Int} (h : IsMax L s) : best L = some s := by
  cases e : best L with
  | none => have := best_none e; subst this; cases h.1
  | some t => rw [(best_spec hi e).uniq h]
def stL (C : Cat) (y : Int) : List (Int × Int) := (vSt C y).zipIdx.map fun p => (p.1, (p.2 : Int))
theorem stL_len (C : Cat) (y : Int) : (stL C y).length = C.seas.length := by simp [stL, vSt]
theorem stL_at {C : Cat} {y : Int} {k : Nat} {s : Sea} (h : C.seas[k]? = some s) : (stL C y)[k]? = some (s.st.day y, (k : Int)) := by
  simp [stL, vSt, List.getElem?_zipIdx, h]
theorem stL_mem {C : Cat} {y : Int} {p : Int × Int} (h : p ∈ stL C y) : ∃ (k : Nat) (s : Sea), C.seas[k]? = some s ∧ p = (s.st.day y, (k : Int)) := by
  obtain ⟨k, hk, e⟩ := List.getElem_of_mem h
  have hk' : k < C.seas.length := by rw [stL_len] at hk; exact hk
  have h1 := List.getElem?_eq_getElem hk'
  have h2 := stL_at (y := y) h1
  rw [List.getElem?_eq_getElem hk, e] at h2
  exact ⟨k, _, h1, by simpa using h2⟩
theorem stL_ord (C : Cat) (y : Int) : (stL C y).Pairwise (fun a b => a.2 < b.2) := by
  rw [List.pairwise_iff_getElem]
  intro i j hi hj hij
  simp [stL]; omega
def vPick (C : Cat) (y d : Int) : Option (Int × Int) := best ((stL C y).filter fun p => decide (p.1 ≤ d))
/-- The start of the season of a day. -/
def vFind (C : Cat) (y d : Int) : Int × Int := match vPick C y d with
  | some s => s
  | none => (vFirst y - 1, ((best (stL C y)).getD (0, 0)).2)
theorem filter_ord {L : List (Int × Int)} (h : L.Pairwise (fun a b => a.2 < b.2)) (f : Int × Int → Bool) : (L.filter f).Pairwise (fun a b => a.2 < b.2) := h.sublist List.filter_sublist
/-- What the sorted list's last element up to the day says. -/
theorem hit_find {C : Cat} {y d : Int} {l : List (Int × Int)} (hs : l.Pairwise Lex) (hp : l.Perm (stL C y)) {x : Int × Int} (h : LsHit d l x) : vFind C y d = x := by
  obtain ⟨h1, A, B, rfl, h2⟩ := h
  have : vPick C y d = some x := by
    refine best_eq (filter_ord (stL_ord C y) _) ⟨?_, fun p hp' => ?_⟩
    · rw [List.mem_filter]
      exact ⟨hp.mem_iff.1 (by simp), by simpa using h1⟩
    · obtain ⟨m1, m2⟩ := List.mem_filter.1 hp'
      have m3 := hp.mem_iff.2 m1
      rcases List.mem_append.1 m3 with m | m
      · exact .inr ((List.pairwise_append.1 hs).2.2 p m x (.head _))
      · rcases List.mem_cons.1 m with rfl | m
        · exact .inl rfl
        · exact absurd (of_decide_eq_true m2) (h2 p m)
  unfold vFind; rw [this]
theorem none_find {C : Cat} {y d : Int} {l : List (Int × Int)} (hs : l.Pairwise Lex) (hp : l.Perm (stL C y)) (h : ∀ p ∈ l, ¬ p.1 ≤ d) {x : Int × Int} (hx : l[l.length - 1]? = some x) : vFind C y d = (vFirst y - 1, x.2) := by
  have e1 : vPick C y d = none := by
    unfold vPick
    rw [List.filter_eq_nil_iff.2 fun p hp' => by simpa using h p (hp.mem_iff.2 hp')]
    rfl
  have e2 : best (stL C y) = some x := by
    refine best_eq (stL_ord C y) ⟨hp.mem_iff.1 (List.mem_of_getElem? hx), fun p hp' => ?_⟩
    obtain ⟨k, hk, e⟩ := List.getElem_of_mem (hp.mem_iff.2 hp')
    obtain ⟨hl, e'⟩ := List.getElem?_eq_some_iff.1 hx
    by_cases hkl : k = l.length - 1
    · subst hkl; exact .inl (by rw [← e, ← e'])
    · right
      have := List.pairwise_iff_getElem.1 hs k (l.length - 1) hk hl (by omega)
      rw [e, e'] at this
      exact this
  unfold vFind; rw [e1, e2]; rfl
theorem vCum_false (b : Bool) {m : Int} (h1 : 1 ≤ m) (h2 : m ≤ 12) : vCum false m ≤ vCum b m ∧ vCum b m ≤ vCum false m + lp b := by
  rcases twelve h1 h2 with h | h | h | h | h | h | h | h | h | h | h | h <;> subst h <;> cases b <;> decide
theorem exists_month {m d : Int} (a : 1 ≤ d) (b : d ≤ vLen false m) : 1 ≤ m ∧ m ≤ 12 := by
  by_cases h : m < 1 ∨ 12 < m
  · rw [vLen_out h] at b; omega
  · omega
theorem fix_bd {y m d : Int} (a : 1 ≤ d) (b : d ≤ vLen false m) : vTo y m d = vFirst y + vCum (vLeap y) m + d - 1 ∧ doyC m d ≤ vCum (vLeap y) m + d ∧ vCum (vLeap y) m + d ≤ doyC m d + lp (vLeap y) ∧ 1 ≤ doyC m d ∧ doyC m d ≤ 365 := by
  obtain ⟨m1, m2⟩ := exists_month a b
  obtain ⟨c1, c2⟩ := vCum_false (vLeap y) m1 m2
  have e := vCum_succ (b := false) m1 m2
  have e2 := vCum_le (b := false) (m := m + 1) (by omega)
  have e3 := vCum_le (b := false) (m := m) (by omega)
  have : lp false = 0 := by decide
  unfold vTo doyC
  omega
theorem eas_bd {y : Int} : vFirst y + 80 ≤ vEas y ∧ vEas y ≤ vFirst y + 114 + lp (vLeap y) := by
  obtain ⟨l1, l2⟩ := vLab_in y
  have h := pK_in l1 l2
  have e : n8 y = vFirst y + vCum (vLeap y) 3 + 8 - 1 := rfl
  have c : vCum (vLeap y) 3 = 59 + lp (vLeap y) := by cases vLeap y <;> decide
  have := lp01 (vLeap y)
  unfold vEas vMoon
  omega
/-- Every anchor's day lies in its year. -/
theorem anc_bd {a : AncT} {y : Int} (h : a.Ok) (y1 : 1583 ≤ y) (y2 : y ≤ 1000000000) : vFirst y ≤ a.day y ∧ a.day y < vFirst (y + 1) := by
  have s := vFirst_succ y
  obtain ⟨b1, b2⟩ := vFirst_bd (y := y) (by omega) (by omega)
  have lp1 := lp01 (vLeap y)
  have ES := eas_bd (y := y)
  unfold AncT.Ok AncOk at h
  unfold AncT.day vAnc
  rcases h with ⟨k, d1, d2, _⟩ | ⟨k, _, _, _, _, o1, o2⟩ | ⟨k, _, d1, d2, w1, w2, h⟩
  · rw [k, if_neg (by decide), if_neg (by decide)]
    have := fix_bd (y := y) d1 d2
    omega
  · rw [k, if_pos rfl]
    omega
  · rw [k, if_neg (by decide), if_pos rfl]
    obtain ⟨e, f1, f2, f3, f4⟩ := fix_bd (y := y) d1 d2
    have N := nth_err (n := vTo y a.m a.d) (wd := a.wd) (c := a.c) w1 w2 (by omega) (by omega) (by omega) (by omega) (by omega)
    have hn : ¬ (a.wd < 0 ∨ 6 < a.wd ∨ a.c = 0 ∨ a.c < -1000 ∨ 1000 < a.c) := by omega
    have he := N
    rw [vNth_err hn] at he
    have A := vAfter_in he
    have B := vBefore_in he
    rcases h with ⟨c1, c2, c3⟩ | ⟨c1, c2, c3⟩
    · rw [vNth_pos hn he (by omega)]; omega
    · rw [vNth_neg hn he (by omega)]; omega
theorem stL_bd {C : Cat} {y : Int} (h : C.Good) (y1 : 1583 ≤ y) (y2 : y ≤ 1000000000) : Bd (stL C y) := fun p hp => by
  obtain ⟨k, s, hs, rfl⟩ := stL_mem hp
  have := anc_bd (y := y) ((h.sea s (List.mem_of_getElem? hs)).st) y1 y2
  have := vFirst_bd (y := y) (by omega) (by omega)
  have := vFirst_bd (y := y + 1) (by omega) (by omega)
  show -1000000000000 ≤ AncT.day y s.st ∧ AncT.day y s.st ≤ 1000000000000
  omega
end Go.Proofs.YtdgaflcnigljlaaGreatDoor
/-
  Contracts of package season: the season of a day, its week, at well-formed small catalogues, years from 1583 to 1000000000, days of the year. No further condition.
-/
namespace Go.Proofs.YtdgaflcnigljlaaGreatDoor
open Go.RowKit Go.Proofs Go.Proofs.YtdgaflcnigljlaaGreatDoorW.PrintWords
set_option linter.unusedVariables false
theorem info193 : (Tryz.prog.info? 193).map (fun i => (i.zero, i.size, i.bytes)) = some (some (.agg #[.int .i64 0, .int .i64 0]), 2, 16) := by kernel_rfl
/-- What find keeps. -/
structure FdBox (w W : World) (C : Cat) (A1 : Option Addr) (n1 c1 : Nat) (A2 : Option Addr) (n2 c2 : Nat) (d : Int) : Prop where
  bel : Below w.heap.size w W
  box : Blk W w.heap.size #[.int .i64 C.free, .slice A1 n1 c1, .slice A2 n2 c2] 25
  day : Blk W (w.heap.size + 1) #[.int .i64 d] 3
  res : Blk W (w.heap.size + 1 + 1) #[.int .i64 0, .int .i64 0] 193
section
variable {w W W2 : World} {C : Cat} {A1 A2 : Option Addr} {n1 c1 n2 c2 : Nat} {d : Int}
theorem FdBox.below (h : FdBox w W C A1 n1 c1 A2 n2 c2 d) (hb : Below W.heap.size W W2) : FdBox w W2 C A1 n1 c1 A2 n2 c2 d := ⟨below_then h.bel h.bel.size hb, h.box.below hb, h.day.below hb, h.res.below hb⟩
theorem FdBox.new (w : World) (C : Cat) (A1 : Option Addr) (n1 c1 : Nat) (A2 : Option Addr) (n2 c2 : Nat) (d : Int) : FdBox w (((w.alloc (.cells #[.int .i64 C.free, .slice A1 n1 c1, .slice A2 n2 c2] 25)).alloc (.cells #[.int .i64 d] 3)).alloc (.cells #[.int .i64 0, .int .i64 0] 193)) C A1 n1 c1 A2 n2 c2 d :=
  ⟨(((Below.refl _ _).alloc (Nat.le_refl _) _).alloc (by simp) _).alloc (by simp; omega) _, ((Blk.new _ _ _).alloc _).alloc _, (Blk.new2 _ _ _ _).alloc _, Blk.new3 _ _ _ _ _⟩
end
theorem year_end {y : Int} (y1 : 1583 ≤ y) (y2 : y ≤ 1000000000) : vToN y 12 31 = vFirst (y + 1) - 1 ∧ vToE y 12 31 = 0 := by
  have hv : vValid y 12 31 = true := exists_valid (by omega) y2 (by omega) (by decide)
  obtain ⟨a, b⟩ := vTo_ok hv
  rw [a, vFirst_succ]
  have : vCum (vLeap y) 12 = 334 + lp (vLeap y) := by cases vLeap y <;> decide
  unfold vTo
  exact ⟨by omega, b⟩
theorem year_start {y : Int} (y1 : 1583 ≤ y) (y2 : y ≤ 1000000000) : vFst y = vFirst y ∧ vFstE y = 0 := by
  have : vIn y = true := vIn_iff.2 ⟨by omega, y2⟩
  unfold vFst vFstE; rw [this]; exact ⟨rfl, rfl⟩
/-- Within the loop: the list of the starts. -/
structure FlBox (W1 W : World) (v : Value) (l : List (Int × Int)) : Prop where
  bel : Below W1.heap.size W1 W
  own : Own W W1.heap.size 193 2 v (stRows l)
theorem stRows_snoc (l : List (Int × Int)) (p : Int × Int) : stRows l ++ [#[.int .i64 p.1, .int .i64 p.2]] = stRows (l ++ [p]) := by simp [stRows, stRow]
theorem FlBox.app {W1 W W2 : World} {v v1 : Value} {l : List (Int × Int)} {a b : Int} (h : FlBox W1 W v l) (ho : Own W2 W1.heap.size 193 2 v1 (stRows l ++ [#[.int .i64 a, .int .i64 b]])) (hb : Below W1.heap.size W W2) : FlBox W1 W2 v1 (l ++ [(a, b)]) :=
  ⟨h.bel.trans hb, by rw [← stRows_snoc]; exact ho⟩
theorem SoBox.rowsAt {w W : World} {base g cap n : Nat} {l : List (Int × Int)} (h : SoBox w W base g cap n l) : rowsAt W g l := fun k p hk => (h.cells hk).1
theorem SoBox.lt {w W : World} {base g cap n : Nat} {l : List (Int × Int)} (h : SoBox w W base g cap n l) : g < W.heap.size := (h.own.block g rfl).2
/-- A slice of the call's own that holds an element. -/
theorem Own.ne {w : World} {base : Nat} {e : TypeId} {sz : Nat} {v : Value} {rows : List (Array Value)} (h : Own w base e sz v rows) {n : Nat} (hn : rows.length = n) (h0 : 0 < n) :
    ∃ g cap, v = .slice (some ⟨g, 0, none⟩) n cap ∧ base ≤ g ∧ n ≤ cap ∧ ∀ (k : Nat) cs, rows[k]? = some cs → ∀ j, j < sz → w.cell? ⟨g, k * sz + j, none⟩ = cs[j]? ∧ w.frozen? ⟨g, k * sz + j, none⟩ = false := by
  subst hn
  obtain ⟨g, cap, hv, hb, hg, hc, _⟩ := h.cell (k := 0) (cs := rows[0]) (List.getElem?_eq_getElem h0)
  refine ⟨g, cap, hv, hb, hc, fun k cs hk => ?_⟩
  obtain ⟨g', cap', hv', _, _, _, hh⟩ := h.cell hk
  rw [hv] at hv'
  simp only [Value.slice.injEq, Option.some.injEq, Addr.mk.injEq, and_true] at hv'
  obtain ⟨rfl, _⟩ := hv'
  exact hh
theorem ints_len (C : Cat) (y : Int) {n : Nat} (h : n = C.seas.length) : (intRows (vSt C y)).length = n := by simp [intRows, vSt, h]
theorem ints_at {C : Cat} {y : Int} {k : Nat} {p : Int × Int} (h : (stL C y)[k]? = some p) : (intRows (vSt C y))[k]? = some #[.int .i64 p.1] ∧ p.2 = k := by
  have hk : k < C.seas.length := by have := (List.getElem?_eq_some_iff.1 h).1; rw [stL_len] at this; exact this
  have h2 := stL_at (y := y) (List.getElem?_eq_getElem hk)
  rw [h] at h2
  cases h2
  simp [intRows, vSt, List.getElem?_eq_getElem hk]
set_option maxRecDepth 20000 in
set_option maxHeartbeats 1000000 in
theorem find_c (C : Cat) (A1 : Option Addr) (n1 c1 : Nat) (A2 : Option Addr) (n2 c2 : Nat) (y d : Int) (w : World) (ht : Hid (Tabs w)) (hI : Hid (CatIn w C A1 n1 c1 A2 n2 c2)) (hG : Hid C.Good) (y1 : 1583 ≤ y) (y2 : y ≤ 1000000000) (d1 : vFirst y ≤ d) (d2 : d < vFirst (y + 1)) :
    Calls Tryz.prog 138 #[.agg #[.int .i64 C.free, .slice A1 n1 c1, .slice A2 n2 c2], .int .i64 y, .int .i64 d] w fun e w' => e = .returned (.tuple #[.agg #[.int .i64 (vFind C y d).1, .int .i64 (vFind C y d).2], .int .i64 0]) ∧ Below w.heap.size w w' := by
  have HK := Lib.hid (FdBox.new w C A1 n1 c1 A2 n2 c2 d)
  have g1 : 1 ≤ n1 := by have := hG.out.n1; have := hI.out.e1; omega
  have g2 : n1 ≤ 8 := by have := hG.out.n2; have := hI.out.e1; omega
  obtain ⟨p1, p2⟩ := year_start y1 y2
  obtain ⟨q1, q2⟩ := year_end y1 y2
  have P1 := Lib.hid p1
  have P2 := Lib.hid p2
  have Q1 := Lib.hid q1
  have Q2 := Lib.hid q2
  clear p1 p2 q1 q2
  have VL := Lib.hid (ints_len C y hI.out.e1)
  have b1 : decide (d < vFirst y) = false := by simpa using d1
  have b2 : decide (vFirst (y + 1) - 1 < d) = false := by simp; omega
  obtain ⟨⟨x0, x1, x2⟩, x3⟩ := HK.out.box.c3
  go_enter Tryz.func138, Tryz.ntmps138
  go_wp2_with (first | (go_at_call 176; with_reducible refine (starts_c C _ _ _ _ _ _ _ _ (Lib.hid (ht.out.below HK.out.bel)) (Lib.hid (hI.out.below HK.out.bel)) hG y1 y2).mono ?_; rintro e w1 ⟨v, ⟨rfl, hv⟩, hw⟩; replace HK := Lib.hid (HK.out.below hw); clear hw; obtain ⟨g, cap, ev, _, hcap, _⟩ := hv.ne VL.out (by omega); have HV := Lib.hid hv; clear hv; subst ev) | (go_at_call 60; with_reducible refine (First_c y _).mono ?_; rintro e w2 ⟨rfl, rfl⟩; rw [P1.out, P2.out]) | (go_at_call 177; with_reducible refine (to_c y 12 31 _).mono ?_; rintro e w3 ⟨rfl, hw⟩; rw [Q1.out, Q2.out]; replace HK := Lib.hid (HK.out.below hw); replace HV := Lib.hid (HV.out.below hw); clear hw; obtain ⟨z0, z1⟩ := HK.out.day.c1))
  clear x0 x1 x2 x3
  have h3 := w3.heap.size
  obtain ⟨W1, hW⟩ : ∃ W1, w3 = W1 := ⟨_, rfl⟩
  rw [hW] at HK HV z0 z1 ⊢
  clear hW h3
  have HL := Lib.hid (show FlBox W1 W1 (.slice none 0 0) [] from ⟨Below.refl _ _, Own.nil _ _ _ _⟩)
  go_loopw [14, 51] (fun o i wr => ∃ (k : Nat) (v : Value), k ≤ n1 ∧ i = .int .i64 k ∧ o = v ∧ Hid (FlBox W1 wr v ((stL C y).take k))) (fun _ i _ => (n1 - intOf i).toNat)
  case atStart => exact ⟨0, _, by omega, rfl, rfl, HL⟩
  case round =>
    clear HL
    obtain ⟨k, v, k1, rfl, rfl, HL⟩ := hrel
    by_cases hk : k < n1
    · obtain ⟨p, hp⟩ : ∃ p, (stL C y)[k]? = some p := ⟨_, List.getElem?_eq_getElem (by rw [stL_len]; have := hI.out.e1; omega)⟩
      have TK := Lib.hid (show (stL C y).take k ++ [p] = (stL C y).take (k + 1) by rw [List.take_add_one, hp]; rfl)
      have TL : ((stL C y).take k).length ≤ 8 := by rw [List.length_take]; omega
      obtain ⟨i1, i2⟩ := ints_at hp
      obtain ⟨g', cap', ev, gb, _, gc⟩ := HV.out.ne VL.out (by omega)
      simp only [Value.slice.injEq, Option.some.injEq, Addr.mk.injEq, and_true, true_and] at ev
      obtain ⟨rfl, rfl⟩ := ev
      have g1 := (gc k _ i1 0 (by omega)).1
      rw [Nat.mul_one, Nat.add_zero] at g1
      have gl := HV.out.block g rfl
      have g1 := (HL.out.bel.cell (p := ⟨g, k, none⟩) gl.2).trans g1
      have hk' : (k : Int) < n1 := by omega
      clear gc i1 hp gl gb
      go_wp2_with (first | (at_builtin; refine own_app (w0 := wr) 235 193 rfl _ _ rfl Tryz.underlying235 info193 rfl (by decide) (by decide) _ rfl #[_, _] rfl rfl (by simp [Value.oneCell']) HL.out.own (Below.refl _ _) HL.out.bel.size (by simp [stRows]; omega) ?_; intro v1 w2 ho hb hg hat; have HL2 := Lib.hid (HL.out.app ho hb); clear ho hb hg hat))
      exact ⟨⟨k + 1, v1, by omega, by go_num, rfl, Lib.hid (by rw [← TK.out, show p = (p.1, p.2) from rfl, i2]; exact HL2.out)⟩, by simp [intOf]; omega⟩
    · obtain rfl : k = n1 := by omega
      have TK : (stL C y).take k = stL C y := List.take_of_length_le (by rw [stL_len]; have := hI.out.e1; omega)
      rw [TK] at HL
      obtain ⟨g', cap', ev, gb, gc, gg⟩ := HL.out.own.ne (n := k) (by simp [stRows, stL_len, hI.out.e1]) (by omega)
      subst ev
      have HS : Hid (SoBox wr wr W1.heap.size g' cap' k (stL C y)) := Lib.hid ⟨World.grownBy.refl _ _, HL.out.own⟩
      clear gg TK
      have SN := Lib.hid (show k = (stL C y).length by rw [stL_len]; exact hI.out.e1)
      have SB := Lib.hid (stL_bd (y := y) hG.out y1 y2)
      have SO := Lib.hid (stL_ord C y)
      have k8 : k < 20 := by omega
      obtain ⟨j, rfl⟩ : ∃ j, k = j + 1 := ⟨k - 1, by omega⟩
      have j1 : ((j + 1 : Nat) : Int) - 1 = (j : Int) := by omega
      have jlt : (j : Int) < ((j + 1 : Nat) : Int) := by omega
      go_wp2_with (first | (go_at_call 178; with_reducible refine (sortSt_c (stL C y) W1.heap.size g' cap' (j + 1) _ HS SN SB SO g1 k8).mono ?_; rintro e w4 ⟨l', ⟨rfl, s1, s2⟩, hT⟩; have HT := Lib.hid hT; have s1 := Lib.hid s1; have s2 := Lib.hid s2; clear hT; have hb4 : Below W1.heap.size W1 w4 := HL.out.bel.trans ((Below.refl _ _).grown HT.out.gr HL.out.bel.size (fun k e => by cases e; exact gb)); replace HK := Lib.hid (HK.out.below hb4); clear hb4; have ln := Lib.hid (show j + 1 = l'.length by rw [s2.out.length_eq]; exact SN.out); have RA := Lib.hid HT.out.rowsAt; have hgl := HT.out.lt))
      refine (last_n g' cap' (j + 1) (w.heap.size + 1) d l' ln.out (by omega) _ RA hgl (Lib.hid HK.out.day)).mono ?_
      rintro e w5 ⟨hr, hw⟩
      replace HK := Lib.hid (HK.out.below hw)
      replace HT := Lib.hid (HT.out.below hw)
      clear hw
      rcases hr with ⟨rfl, hr⟩ | ⟨x, rfl, hr⟩
      · obtain ⟨x, hx⟩ : ∃ x, l'[j]? = some x := ⟨_, List.getElem?_eq_getElem (by have := ln.out; omega)⟩
        have E := Lib.hid (none_find s1.out s2.out hr (x := x) (by rw [← ln.out]; exact hx))
        have t1 := (HT.out.cells hx).1.2
        obtain ⟨t2, t3, t4⟩ := HK.out.res.c2
        have t5 := HK.out.res.lt
        have t6 := HT.out.lt
        have t7 := gb
        obtain ⟨f1, f2⟩ := vFirst_bd (y := y) (by omega) (by omega)
        clear hx hr
        go_wp2_with fail
        exact bodyPost_ret (results_ct rfl _ _ (w.heap.size + 1 + 1) 193 #[.int .i64 (vFirst y - 1), .int .i64 x.2] (0, 0) _ rfl (((HK.out.res.put 0 _ rfl).put 1 _ rfl).alloc _) Tryz.underlying193 rfl (by kernel_rfl)) rfl ⟨by rw [E.out]; rfl, (((HK.out.bel.setCell (p := ⟨w.heap.size + 1 + 1, 0, none⟩) (by simp; omega) _).setCell (p := ⟨w.heap.size + 1 + 1, 1, none⟩) (by simp; omega) _).alloc (by simp; omega) _)⟩
      · have E := Lib.hid (hit_find s1.out s2.out hr)
        obtain ⟨t2, t3, t4⟩ := HK.out.res.c2
        have t5 := HK.out.res.lt
        clear hr
        go_wp2_with fail
        exact bodyPost_ret (results_ct rfl _ _ (w.heap.size + 1 + 1) 193 #[.int .i64 x.1, .int .i64 x.2] (0, 0) _ rfl (((HK.out.res.put 0 _ rfl).put 1 _ rfl).alloc _) Tryz.underlying193 rfl (by kernel_rfl)) rfl ⟨by rw [E.out]; rfl, (((HK.out.bel.setCell (p := ⟨w.heap.size + 1 + 1, 0, none⟩) (by simp; omega) _).setCell (p := ⟨w.heap.size + 1 + 1, 1, none⟩) (by simp; omega) _).alloc (by simp; omega) _)⟩
theorem of_season_c (C : Cat) (A1 : Option Addr) (n1 c1 : Nat) (A2 : Option Addr) (n2 c2 : Nat) (y d : Int) (w : World) (ht : Hid (Tabs w)) (hI : Hid (CatIn w C A1 n1 c1 A2 n2 c2)) (hG : Hid C.Good) (y1 : 1583 ≤ y) (y2 : y ≤ 1000000000) (d1 : vFirst y ≤ d) (d2 : d < vFirst (y + 1)) :
    Calls Tryz.prog 98 #[.agg #[.int .i64 C.free, .slice A1 n1 c1, .slice A2 n2 c2], .int .i64 y, .int .i64 d] w fun e w' => e = .returned (.tuple #[.int .i64 (vFind C y d).2, .int .i64 0]) ∧ Below w.heap.size w w' := by
  have HB : Hid (Below w.heap.size w (w.alloc (.cells #[.int .i64 C.free, .slice A1 n1 c1, .slice A2 n2 c2] 25))) := Lib.hid ((Below.refl _ _).alloc (Nat.le_refl _) _)
  go_enter Tryz.func98, Tryz.ntmps98
  go_wp2_with (first | (go_at_call 138; with_reducible refine (find_c C _ _ _ _ _ _ _ _ _ (Lib.hid (ht.out.below HB.out)) (Lib.hid (hI.out.below HB.out)) hG y1 y2 d1 d2).mono ?_; rintro e w1 ⟨rfl, hw⟩; replace HB := Lib.hid (below_then HB.out HB.out.size hw); clear hw))
  go_ret2
  exact ⟨rfl, HB.out.alloc HB.out.size _⟩
/-- The week of a day. -/
def vWeek (C : Cat) (y d : Int) : Int :=
  let from_ := max (vFind C y d).1 (vFirst y)
  if d < vAfter from_ 0 then 0 else (d - vAfter from_ 0) / 7 + 1
theorem find_in {C : Cat} {y d : Int} (h : C.Good) (y1 : 1583 ≤ y) (y2 : y ≤ 1000000000) : -1000000000000 ≤ (vFind C y d).1 ∧ (vFind C y d).1 ≤ 1000000000000 := by
  unfold vFind
  split
  · rename_i s hs
    have := (best_spec (filter_ord (stL_ord C y) _) hs).1
    exact stL_bd h y1 y2 _ (List.mem_filter.1 this).1
  · have := vFirst_bd (y := y) (by omega) (by omega)
    simp only []
    omega
set_option maxHeartbeats 400000 in
theorem week_c (C : Cat) (A1 : Option Addr) (n1 c1 : Nat) (A2 : Option Addr) (n2 c2 : Nat) (y d : Int) (w : World) (ht : Hid (Tabs w)) (hI : Hid (CatIn w C A1 n1 c1 A2 n2 c2)) (hG : Hid C.Good) (y1 : 1583 ≤ y) (y2 : y ≤ 1000000000) (d1 : vFirst y ≤ d) (d2 : d < vFirst (y + 1)) :
    Calls Tryz.prog 99 #[.agg #[.int .i64 C.free, .slice A1 n1 c1, .slice A2 n2 c2], .int .i64 y, .int .i64 d] w fun e w' => e = .returned (.tuple #[.int .i64 (vWeek C y d), .int .i64 0]) ∧ Below w.heap.size w w' := by
  have HB : Hid (Below w.heap.size w (w.alloc (.cells #[.int .i64 C.free, .slice A1 n1 c1, .slice A2 n2 c2] 25))) := Lib.hid ((Below.refl _ _).alloc (Nat.le_refl _) _)
  obtain ⟨p1, p2⟩ := year_start y1 y2
  have P1 := Lib.hid p1
  have P2 := Lib.hid p2
  clear p1 p2
  obtain ⟨s1, s2⟩ := find_in (d := d) hG.out y1 y2
  obtain ⟨f1, f2⟩ := vFirst_bd (y := y) (by omega) (by omega)
  obtain ⟨f3, f4⟩ := vFirst_bd (y := y + 1) (by omega) (by omega)
  obtain ⟨m, hm⟩ : ∃ m, max (vFind C y d).1 (vFirst y) = m := ⟨_, rfl⟩
  have m1 : -1000000000000 ≤ m := by omega
  have m2 : m ≤ 1000000000000 := by omega
  obtain ⟨a1, a2⟩ := vAfter0 (n := m) (by omega) (by omega)
  have HA := Lib.hid a2
  obtain ⟨a3, a4⟩ := vAfter_in a2
  have HW : Hid (vWeek C y d = if d < vAfter m 0 then 0 else (d - vAfter m 0) / 7 + 1) := Lib.hid (by rw [← hm]; rfl)
  clear a1 a2
  have HM := Lib.hid hm
  by_cases hs : (vFind C y d).1 < vFirst y
  · obtain rfl : vFirst y = m := by omega
    go_enter Tryz.func99, Tryz.ntmps99
    by_cases hd : d < vAfter (vFirst y) 0
    · have t1 : decide (d < vAfter (vFirst y) 0) = true := by simp [hd]
      have HW2 : Hid (vWeek C y d = 0) := Lib.hid (by rw [HW.out, if_pos hd])
      go_wp2_with (first | (go_at_call 138; with_reducible refine (find_c C _ _ _ _ _ _ _ _ _ (Lib.hid (ht.out.below HB.out)) (Lib.hid (hI.out.below HB.out)) hG y1 y2 d1 d2).mono ?_; rintro e w1 ⟨rfl, hw⟩; replace HB := Lib.hid (below_then HB.out HB.out.size hw); clear hw) | (go_at_call 60; with_reducible refine (First_c y _).mono ?_; rintro e w2 ⟨rfl, rfl⟩; rw [P1.out, P2.out]) | (go_at_call 139; with_reducible refine (after_c _ _ _).mono ?_; rintro e w3 ⟨rfl, hw⟩; rw [HA.out]; replace HB := Lib.hid (below_then (HB.out.alloc HB.out.size _) (by simp; have := HB.out.size; omega) hw); clear hw))
      all_goals first | (exfalso; omega) | skip
      go_ret2
      exact ⟨by rw [HW2.out]; rfl, HB.out⟩
    · have t1 : decide (d < vAfter (vFirst y) 0) = false := by simpa using hd
      have HW2 : Hid (vWeek C y d = (d - vAfter (vFirst y) 0) / 7 + 1) := Lib.hid (by rw [HW.out, if_neg hd])
      have TD : (d - vAfter (vFirst y) 0).tdiv 7 = (d - vAfter (vFirst y) 0) / 7 := Int.tdiv_eq_ediv_of_nonneg (by omega)
      have t2 : 0 ≤ (d - vAfter (vFirst y) 0) / 7 := by omega
      have t3 : (d - vAfter (vFirst y) 0) / 7 ≤ 1000000000000 := by omega
      go_wp2_with (first | (go_at_call 138; with_reducible refine (find_c C _ _ _ _ _ _ _ _ _ (Lib.hid (ht.out.below HB.out)) (Lib.hid (hI.out.below HB.out)) hG y1 y2 d1 d2).mono ?_; rintro e w1 ⟨rfl, hw⟩; replace HB := Lib.hid (below_then HB.out HB.out.size hw); clear hw) | (go_at_call 60; with_reducible refine (First_c y _).mono ?_; rintro e w2 ⟨rfl, rfl⟩; rw [P1.out, P2.out]) | (go_at_call 139; with_reducible refine (after_c _ _ _).mono ?_; rintro e w3 ⟨rfl, hw⟩; rw [HA.out]; replace HB := Lib.hid (below_then (HB.out.alloc HB.out.size _) (by simp; have := HB.out.size; omega) hw); clear hw))
      all_goals first | (exfalso; omega) | skip
      go_ret2
      exact ⟨by rw [HW2.out]; rfl, HB.out⟩
  · obtain rfl : (vFind C y d).1 = m := by omega
    go_enter Tryz.func99, Tryz.ntmps99
    by_cases hd : d < vAfter (vFind C y d).1 0
    · have t1 : decide (d < vAfter (vFind C y d).1 0) = true := by simp [hd]
      have HW2 : Hid (vWeek C y d = 0) := Lib.hid (by rw [HW.out, if_pos hd])
      go_wp2_with (first | (go_at_call 138; with_reducible refine (find_c C _ _ _ _ _ _ _ _ _ (Lib.hid (ht.out.below HB.out)) (Lib.hid (hI.out.below HB.out)) hG y1 y2 d1 d2).mono ?_; rintro e w1 ⟨rfl, hw⟩; replace HB := Lib.hid (below_then HB.out HB.out.size hw); clear hw) | (go_at_call 60; with_reducible refine (First_c y _).mono ?_; rintro e w2 ⟨rfl, rfl⟩; rw [P1.out, P2.out]) | (go_at_call 139; with_reducible refine (after_c _ _ _).mono ?_; rintro e w3 ⟨rfl, hw⟩; rw [HA.out]; replace HB := Lib.hid (below_then (HB.out.alloc HB.out.size _) (by simp; have := HB.out.size; omega) hw); clear hw))
      all_goals first | (exfalso; omega) | skip
      go_ret2
      exact ⟨by rw [HW2.out]; rfl, HB.out⟩
    · have t1 : decide (d < vAfter (vFind C y d).1 0) = false := by simpa using hd
      have HW2 : Hid (vWeek C y d = (d - vAfter (vFind C y d).1 0) / 7 + 1) := Lib.hid (by rw [HW.out, if_neg hd])
      have TD : (d - vAfter (vFind C y d).1 0).tdiv 7 = (d - vAfter (vFind C y d).1 0) / 7 := Int.tdiv_eq_ediv_of_nonneg (by omega)
      have t2 : 0 ≤ (d - vAfter (vFind C y d).1 0) / 7 := by omega
      have t3 : (d - vAfter (vFind C y d).1 0) / 7 ≤ 1000000000000 := by omega
      go_wp2_with (first | (go_at_call 138; with_reducible refine (find_c C _ _ _ _ _ _ _ _ _ (Lib.hid (ht.out.below HB.out)) (Lib.hid (hI.out.below HB.out)) hG y1 y2 d1 d2).mono ?_; rintro e w1 ⟨rfl, hw⟩; replace HB := Lib.hid (below_then HB.out HB.out.size hw); clear hw) | (go_at_call 60; with_reducible refine (First_c y _).mono ?_; rintro e w2 ⟨rfl, rfl⟩; rw [P1.out, P2.out]) | (go_at_call 139; with_reducible refine (after_c _ _ _).mono ?_; rintro e w3 ⟨rfl, hw⟩; rw [HA.out]; replace HB := Lib.hid (below_then (HB.out.alloc HB.out.size _) (by simp; have := HB.out.size; omega) hw); clear hw))
      all_goals first | (exfalso; omega) | skip
      go_ret2
      exact ⟨by rw [HW2.out]; rfl, HB.out⟩
end Go.Proofs.YtdgaflcnigljlaaGreatDoor
/-
  Contracts of package candidate: the season's celebration of a day. At well-formed small catalogues, years from 1583 to 1000000000. No further condition.
-/
namespace Go.Proofs.YtdgaflcnigljlaaGreatDoor
open Go.RowKit Go.Proofs Go.Proofs.YtdgaflcnigljlaaGreatDoorW.PrintWords
set_option linter.unusedVariables false
structure Cand where
  kind : Int
  idx : Int
  rank : Int
  id : ByteArray
@[reducible] def Cand.row (c : Cand) : Array Value := #[.int .i64 c.kind, .int .i64 c.idx, .int .i64 c.rank, .string c.id]
def candRows (l : List Cand) : List (Array Value) := l.map Cand.row
def noSea : Sea := ⟨ByteArray.empty, 0, 0, ⟨0, 0, 0, 0, 0, 0⟩⟩
/-- The season of a day. -/
def vSea (C : Cat) (y d : Int) : Sea := C.seas[(vFind C y d).2.toNat]?.getD noSea
def vTemp (C : Cat) (y d : Int) : Cand := ⟨1, (vFind C y d).2, if d % 7 = 0 then (vSea C y d).sun else (vSea C y d).wk, (vSea C y d).id⟩
theorem find_idx {C : Cat} {y d : Int} (h : C.Good) : 0 ≤ (vFind C y d).2 ∧ (vFind C y d).2 < C.seas.length ∧ C.seas[(vFind C y d).2.toNat]? = some (vSea C y d) := by
  have key : ∀ p, p ∈ stL C y → 0 ≤ p.2 ∧ p.2 < C.seas.length := fun p hp => by
    obtain ⟨k, s, hs, rfl⟩ := stL_mem hp
    have := (List.getElem?_eq_some_iff.1 hs).1
    constructor <;> simp <;> omega
  have hk : 0 ≤ (vFind C y d).2 ∧ (vFind C y d).2 < C.seas.length := by
    unfold vFind
    split
    · rename_i s hs
      exact key _ (List.mem_filter.1 (best_spec (filter_ord (stL_ord C y) _) hs).1).1
    · cases e : best (stL C y) with
      | none =>
        have := best_none e
        have hl := stL_len C y
        rw [this] at hl
        have := h.n1
        simp at hl; omega
      | some s => exact key s (best_spec (stL_ord C y) e).1
  have hlt : (vFind C y d).2.toNat < C.seas.length := by omega
  exact ⟨hk.1, hk.2, by unfold vSea; rw [List.getElem?_eq_getElem hlt]; rfl⟩
theorem Rows9.at_ {w : World} {A : Option Addr} {l : List (Array Value)} (h : Rows9 w A l) {k : Nat} {cs : Array Value} (e : l[k]? = some cs) : ∃ ad, A = some ad ∧ RowIs w (ad.add (k * 9)) cs := h k cs e
theorem RowIs.nine2 {w : World} {p : Addr} {a b c d e f g h i : Value} (H : RowIs w p #[a, b, c, d, e, f, g, h, i]) : (w.cell? p = some a ∧ w.cell? ⟨p.block, p.off + 1, none⟩ = some b ∧ w.cell? ⟨p.block, p.off + 2, none⟩ = some c ∧ w.cell? ⟨p.block, p.off + 3, none⟩ = some d ∧ w.cell? ⟨p.block, p.off + 4, none⟩ = some e ∧ w.cell? ⟨p.block, p.off + 5, none⟩ = some f ∧ w.cell? ⟨p.block, p.off + 6, none⟩ = some g ∧ w.cell? ⟨p.block, p.off + 7, none⟩ = some h ∧ w.cell? ⟨p.block, p.off + 8, none⟩ = some i) ∧ p.block < w.heap.size :=
  ⟨H.nine, H.lt rfl⟩
structure TmBox (w W : World) (C : Cat) (A1 : Option Addr) (n1 c1 : Nat) (A2 : Option Addr) (n2 c2 : Nat) : Prop where
  bel : Below w.heap.size w W
  box : Blk W w.heap.size #[.int .i64 C.free, .slice A1 n1 c1, .slice A2 n2 c2] 25
  res : Blk W (w.heap.size + 1) #[.int .i64 0, .int .i64 0, .int .i64 0, .string ⟨#[]⟩] 115
theorem TmBox.below {w W W2 : World} {C : Cat} {A1 A2 : Option Addr} {n1 c1 n2 c2 : Nat} (h : TmBox w W C A1 n1 c1 A2 n2 c2) (hb : Below W.heap.size W W2) : TmBox w W2 C A1 n1 c1 A2 n2 c2 := ⟨below_then h.bel h.bel.size hb, h.box.below hb, h.res.below hb⟩
theorem TmBox.new (w : World) (C : Cat) (A1 : Option Addr) (n1 c1 : Nat) (A2 : Option Addr) (n2 c2 : Nat) : TmBox w ((w.alloc (.cells #[.int .i64 C.free, .slice A1 n1 c1, .slice A2 n2 c2] 25)).alloc (.cells #[.int .i64 0, .int .i64 0, .int .i64 0, .string ⟨#[]⟩] 115)) C A1 n1 c1 A2 n2 c2 :=
  ⟨((Below.refl _ _).alloc (Nat.le_refl _) _).alloc (by simp) _, (Blk.new _ _ _).alloc _, Blk.new2 _ _ _ _⟩
set_option maxRecDepth 20000 in
set_option maxHeartbeats 1000000 in
theorem temporal_c (C : Cat) (A1 : Option Addr) (n1 c1 : Nat) (A2 : Option Addr) (n2 c2 : Nat) (y d : Int) (w : World) (ht : Hid (Tabs w)) (hI : Hid (CatIn w C A1 n1 c1 A2 n2 c2)) (hG : Hid C.Good) (y1 : 1583 ≤ y) (y2 : y ≤ 1000000000) (d1 : vFirst y ≤ d) (d2 : d < vFirst (y + 1)) :
    Calls Tryz.prog 91 #[.agg #[.int .i64 C.free, .slice A1 n1 c1, .slice A2 n2 c2], .int .i64 y, .int .i64 d] w fun e w' => e = .returned (.tuple #[.agg (vTemp C y d).row, .int .i64 0]) ∧ Below w.heap.size w w' := by
  have HK := Lib.hid (TmBox.new w C A1 n1 c1 A2 n2 c2)
  obtain ⟨i1, i2, i3⟩ := find_idx (y := y) (d := d) hG.out
  obtain ⟨f1, f2⟩ := vFirst_bd (y := y) (by omega) (by omega)
  obtain ⟨f3, f4⟩ := vFirst_bd (y := y + 1) (by omega) (by omega)
  have i4 : (vFind C y d).2 < (n1 : Int) := by rw [hI.out.e1]; exact i2
  have HV : Hid (vTemp C y d = ⟨1, (vFind C y d).2, if d % 7 = 0 then (vSea C y d).sun else (vSea C y d).wk, (vSea C y d).id⟩) := Lib.hid rfl
  have HR : Hid ((C.seas.map Sea.cells)[(vFind C y d).2.toNat]? = some (vSea C y d).cells) := Lib.hid (by rw [List.getElem?_map, i3]; rfl)
  clear i3 i2
  go_enter Tryz.func91, Tryz.ntmps91
  go_wp2_with (first | (go_at_call 98; with_reducible refine (of_season_c C _ _ _ _ _ _ _ _ _ (Lib.hid (ht.out.below HK.out.bel)) (Lib.hid (hI.out.below HK.out.bel)) hG y1 y2 d1 d2).mono ?_; rintro e w1 ⟨rfl, hw⟩; replace HK := Lib.hid (HK.out.below hw); clear hw; have HT := HK.out.res.lt; obtain ⟨⟨x0, x1, x2⟩, x3⟩ := HK.out.box.c3; obtain ⟨ad, ha, hr⟩ := (hI.out.sea.below HK.out.bel).at_ HR.out; obtain ⟨⟨a0, a1, a2, a3, a4, a5, a6, a7, a8⟩, plt⟩ := RowIs.nine2 hr; clear hr; subst ha))
  clear a0 a1 a2 a3 a4 a5 a6 a7 a8 plt x0 x1 x2 x3
  have R1 := Lib.hid ((Blk.new w1 (vSea C y d).cells 67).alloc (.cells #[.int .i64 1, .int .i64 (vFind C y d).2, .int .i64 (vSea C y d).wk, .string (vSea C y d).id] 115))
  have R2 := Lib.hid (Blk.new2 w1 (.cells (vSea C y d).cells 67) #[.int .i64 1, .int .i64 (vFind C y d).2, .int .i64 (vSea C y d).wk, .string (vSea C y d).id] 115)
  have HB2 := (((Below.refl w1.heap.size w1).alloc (Nat.le_refl _) (.cells (vSea C y d).cells 67)).alloc (by simp) (.cells #[.int .i64 1, .int .i64 (vFind C y d).2, .int .i64 (vSea C y d).wk, .string (vSea C y d).id] 115))
  replace HK := Lib.hid (HK.out.below HB2)
  clear HB2
  simp only [Sea.cells] at R1 R2 HK
  generalize ((w1.alloc (.cells #[.string (vSea C y d).id, .int .i64 (vSea C y d).sun, .int .i64 (vSea C y d).wk, .int .i64 (vSea C y d).st.k, .int .i64 (vSea C y d).st.m, .int .i64 (vSea C y d).st.d, .int .i64 (vSea C y d).st.o, .int .i64 (vSea C y d).st.wd, .int .i64 (vSea C y d).st.c] 67)).alloc (.cells #[.int .i64 1, .int .i64 (vFind C y d).2, .int .i64 (vSea C y d).wk, .string (vSea C y d).id] 115)) = W2 at R1 R2 HK ⊢
  have ql : w.heap.size + 1 < w1.heap.size := HT
  generalize w1.heap.size = q at R1 R2 ql ⊢
  refine (of_c d _ (by omega) (by omega)).mono ?_
  rintro e w3 ⟨rfl, hw⟩
  replace HK := Lib.hid (HK.out.below hw)
  obtain ⟨⟨a0, a1, a2, a3, a4, a5, a6, a7, a8⟩, l1⟩ := (R1.out.below hw).c9
  have HR2 := Lib.hid (R2.out.below hw)
  obtain ⟨⟨b0, b1, b2, b3⟩, l2⟩ := HR2.out.c4
  have b4 := HR2.out.frozen 2
  obtain ⟨⟨z0, z1, z2, z3⟩, l3⟩ := HK.out.res.c4
  have z4 := HK.out.res.frozen 0
  have z5 := HK.out.res.frozen 1
  have z6 := HK.out.res.frozen 2
  have z7 := HK.out.res.frozen 3
  clear hw
  by_cases hd : d % 7 = 0
  · have t1 : (d % 7 == 0) = true := by simp [hd]
    have HV2 : Hid ((vTemp C y d).row = #[.int .i64 1, .int .i64 (vFind C y d).2, .int .i64 (vSea C y d).sun, .string (vSea C y d).id]) := Lib.hid (by rw [HV.out, if_pos hd])
    go_wp2_with fail
    exact bodyPost_ret (results_ct rfl _ _ (w.heap.size + 1) 115 #[.int .i64 1, .int .i64 (vFind C y d).2, .int .i64 (vSea C y d).sun, .string (vSea C y d).id] (0, 0) _ rfl (((((HK.out.res.far (by simp; omega) _).put 0 _ rfl).put 1 _ rfl).put 2 _ rfl).put 3 _ rfl) Tryz.underlying115 rfl (by kernel_rfl)) rfl ⟨by rw [HV2.out]; rfl, (((((HK.out.bel.setCell (p := ⟨q + 1, 2, none⟩) (by simp; omega) _).setCell (p := ⟨w.heap.size + 1, 0, none⟩) (by simp) _).setCell (p := ⟨w.heap.size + 1, 1, none⟩) (by simp) _).setCell (p := ⟨w.heap.size + 1, 2, none⟩) (by simp) _).setCell (p := ⟨w.heap.size + 1, 3, none⟩) (by simp) _)⟩
  · have t1 : (d % 7 == 0) = false := by simpa using hd
    have HV2 : Hid ((vTemp C y d).row = #[.int .i64 1, .int .i64 (vFind C y d).2, .int .i64 (vSea C y d).wk, .string (vSea C y d).id]) := Lib.hid (by rw [HV.out, if_neg hd])
    go_wp2_with fail
    exact bodyPost_ret (results_ct rfl _ _ (w.heap.size + 1) 115 #[.int .i64 1, .int .i64 (vFind C y d).2, .int .i64 (vSea C y d).wk, .string (vSea C y d).id] (0, 0) _ rfl ((((HK.out.res.put 0 _ rfl).put 1 _ rfl).put 2 _ rfl).put 3 _ rfl) Tryz.underlying115 rfl (by kernel_rfl)) rfl ⟨by rw [HV2.out]; rfl, ((((HK.out.bel.setCell (p := ⟨w.heap.size + 1, 0, none⟩) (by simp) _).setCell (p := ⟨w.heap.size + 1, 1, none⟩) (by simp) _).setCell (p := ⟨w.heap.size + 1, 2, none⟩) (by simp) _).setCell (p := ⟨w.heap.size + 1, 3, none⟩) (by simp) _)⟩
end Go.Proofs.YtdgaflcnigljlaaGreatDoor
