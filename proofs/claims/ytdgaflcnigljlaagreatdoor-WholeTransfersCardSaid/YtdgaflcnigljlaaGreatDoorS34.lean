/-
  Contracts and plain facts for the laws on the whole program: the parts below say each what they are. No further condition.
-/
import Derived.Test.YtdgaflcnigljlaaGreatDoorS33
set_option linter.unusedSimpArgs false
/-
  Contracts of package linescan: New, End, Err. No further condition.
-/
namespace Go.Proofs.YtdgaflcnigljlaaGreatDoor
open Go.RowKit Go.Proofs Go.MapKept Go.Proofs.YtdgaflcnigljlaaGreatDoorW.PrintWords
set_option linter.unusedVariables false
theorem scan_new (S : ByteArray) (w : World) : Calls Tryz.prog 52 #[.string S] w fun e w' => e = .returned (.pointer (some ⟨w.heap.size, 0, none⟩)) ∧ Blk w' w.heap.size (scC S 0) 133 ∧ Below w.heap.size w w' := by
  go_enter Tryz.func52, Tryz.ntmps52
  go_wp2
  go_ret
  exact ⟨rfl, Blk.new _ _ _, (Below.refl _ _).alloc (Nat.le_refl _) _⟩
set_option maxRecDepth 20000 in
theorem err_c (s : Nat) (S : ByteArray) (i : Int) (w : World) (h : Hid (Blk w s (scC S i) 133)) : Calls Tryz.prog 54 #[.pointer (some ⟨s, 0, none⟩)] w fun e w' => e = .returned (.int .i64 0) ∧ Below w.heap.size w w' := by
  have HB := Lib.hid (Below.refl w.heap.size w)
  have hpe : ∀ (a : Addr) (W : World), (binOp .eql 104 (.pointer (some a)) (.pointer none)).run Tryz.prog W = .ok (.bool false) W := fun _ _ => rfl
  have x2 : w.cell? ⟨s, 2, none⟩ = some (.bool false) := h.out.cell 2
  have sl := h.out.lt
  go_enter Tryz.func54, Tryz.ntmps54
  go_wp2_with fail
  go_ret
  exact ⟨rfl, HB.out⟩
theorem end1_c (s xb : Nat) (S : ByteArray) (w : World) (h : Hid (Blk w s (scC S (S.size : Int)) 133)) (hx : Hid (Blk w xb #[.pointer (some ⟨s, 0, none⟩)] 104)) :
    Calls Tryz.prog 120 #[.pointer (some ⟨xb, 0, none⟩)] w fun e w' => e = .returned (.tuple #[]) ∧ Below w.heap.size w w' := by
  have x0 : w.cell? ⟨s, 0, none⟩ = some (.string S) := h.out.cell 0
  have x1 : w.cell? ⟨s, 1, none⟩ = some (.int .i64 S.size) := h.out.cell 1
  have x2 : w.cell? ⟨xb, 0, none⟩ = some (.pointer (some ⟨s, 0, none⟩)) := hx.out.cell 0
  have sl := h.out.lt
  have xl := hx.out.lt
  go_enter Tryz.func120, Tryz.ntmps120
  go_wp2_with fail
  go_region
  go_wp2_with fail
  go_end0
  exact ⟨rfl, (Below.refl _ _).drew⟩
set_option maxRecDepth 20000 in
theorem end_c (s : Nat) (S : ByteArray) (w : World) (h : Hid (Blk w s (scC S (S.size : Int)) 133)) :
    Calls Tryz.prog 81 #[.pointer (some ⟨s, 0, none⟩)] w fun e w' => e = .returned (.tuple #[]) ∧ Below w.heap.size w w' := by
  have hmf : ∀ (fn : Fn) (first cap : Array Value) (w : World), (Instr.makeFunc fn first cap).run Tryz.prog w = .ok (.func fn first cap) w := fun _ _ _ _ => rfl
  have HW : Hid (Below w.heap.size w (w.alloc (.cells #[.pointer (some ⟨s, 0, none⟩)] 104))) := Lib.hid ((Below.refl _ _).alloc (Nat.le_refl _) _)
  have HX : Hid (Blk (w.alloc (.cells #[.pointer (some ⟨s, 0, none⟩)] 104)) w.heap.size #[.pointer (some ⟨s, 0, none⟩)] 104) := Lib.hid (Blk.new _ _ _)
  have sl := h.out.lt
  go_enter Tryz.func81, Tryz.ntmps81
  go_upto_region 1 with fail
  generalize hWc : (w.alloc (.cells #[.pointer (some ⟨s, 0, none⟩)] 104)) = Wc at HW HX ⊢
  clear hWc
  have HS := Lib.hid (h.out.below HW.out)
  have x0 : Wc.cell? ⟨w.heap.size, 0, none⟩ = some (.pointer (some ⟨s, 0, none⟩)) := HX.out.cell 0
  have xl := HX.out.lt
  have HR : Hid (∀ W1 W2, Below w.heap.size w W1 → Below Wc.heap.size W1 W2 → Below w.heap.size w W2) := Lib.hid fun W1 W2 h1 hb => h1.trans (hb.mono HW.out.size)
  have HH : Hid (∀ W, Below Wc.heap.size Wc W → Calls Tryz.prog 120 #[.pointer (some ⟨w.heap.size, 0, none⟩)] W fun e w' => e = .returned (.tuple #[]) ∧ Below w.heap.size w w' ∧ Over Wc.heap.size W w') :=
    Lib.hid fun W hW => (end1_c s w.heap.size S W (Lib.hid (HS.out.below hW)) (Lib.hid (HX.out.below hW))).mono fun e w' hp => ⟨hp.1, below_then (below_then HW.out HW.out.size hW) (below_then HW.out HW.out.size hW).size hp.2, ⟨hp.2.size, fun k _ hk => hp.2.block k hk⟩⟩
  go_wp2_with (first | (go_at_call 115; with_reducible refine (guard_c s S S.size 120 #[.pointer (some ⟨w.heap.size, 0, none⟩)] (fun W => Below w.heap.size w W) _ HS (fun _ _ => rfl) HR HH).mono ?_; rintro e w1 ⟨rfl, hb1⟩; have H1 := Lib.hid hb1; clear hb1))
  go_end0
  exact ⟨rfl, H1.out⟩
/-- One of some words stands at a place, and no other does: by reckoning. -/
def wgB (S : ByteArray) (a : Nat) (ws : List ByteArray) (j : Nat) (t : ByteArray) : Bool :=
  (match ws[j]? with | some u => u == t | none => false) && decide (0 < t.size) && decide (a + t.size ≤ S.size) && (S.extract a (a + t.size) == t) &&
  (List.range ws.length).all fun i => i == j || (match ws[i]? with | some u => !(decide (u.size ≤ t.size) && (u == S.extract a (a + u.size))) | none => true)
theorem wg_of {S : ByteArray} {a : Nat} {ws : List ByteArray} {j : Nat} {t : ByteArray} (h : wgB S a ws j t = true) : WGood S a ws j t := by
  simp only [wgB, Bool.and_eq_true, decide_eq_true_eq, List.all_eq_true, List.mem_range] at h
  obtain ⟨⟨⟨⟨h1, h2⟩, h3⟩, h4⟩, h5⟩ := h
  have h4' := (bytes_beq _ _).1 h4
  have hj : ws[j]? = some t := by
    split at h1
    · rename_i u hu; rw [hu, (bytes_beq _ _).1 h1]
    · cases h1
  refine ⟨hj, h2, h3, h4', fun i u m hi hm hu => ?_⟩
  have hz : u.size = m := by rw [hu]; simp; omega
  by_cases e : i = j
  · refine ⟨e, ?_⟩
    subst e
    rw [hj] at hi
    cases hi
    exact hz.symm
  · exfalso
    have h6 := h5 i (List.getElem?_eq_some_iff.1 hi).1
    rw [hi] at h6
    simp only [Bool.or_eq_true, beq_iff_eq, e, false_or, Bool.not_eq_true', Bool.and_eq_false_iff] at h6
    rcases h6 with h6 | h6
    · simp at h6; omega
    · rw [hz, ← hu] at h6
      rw [(bytes_beq u u).2 rfl] at h6; cases h6
end Go.Proofs.YtdgaflcnigljlaaGreatDoor
/-
  Contracts of package cattext: number, identifier, choice. No further condition.
-/
namespace Go.Proofs.YtdgaflcnigljlaaGreatDoor
open Go.RowKit Go.Proofs Go.MapKept Go.Proofs.YtdgaflcnigljlaaGreatDoorW.PrintWords
set_option linter.unusedVariables false
@[reducible] def spS : ByteArray := ⟨#[32]⟩
theorem WGood.size1 {S : ByteArray} {a : Nat} {ws : List ByteArray} {j : Nat} {t : ByteArray} (h : WGood S a ws j t) : a ≤ S.size := by have := h.fit; omega
structure CxIn (w W : World) (s : Nat) (S : ByteArray) (a : Nat) : Prop where
  sc : Blk W s (scC S (a : Int)) 133
  p : Blk W w.heap.size #[.pointer (some ⟨s, 0, none⟩)] 107
  gr : w.grownBy W (some s)
theorem CxIn.below {w W W2 : World} {s : Nat} {S : ByteArray} {a : Nat} (h : CxIn w W s S a) (hb : Below W.heap.size W W2) : CxIn w W2 s S a := ⟨h.sc.below hb, h.p.below hb, gr_lowB h.gr h.gr.size hb⟩
theorem CxIn.alloc {w W : World} {s : Nat} {S : ByteArray} {a : Nat} (h : CxIn w W s S a) (o : Obj) : CxIn w (W.alloc o) s S a := h.below ((Below.refl _ _).alloc (Nat.le_refl _) _)
theorem CxIn.start {w : World} {s : Nat} {S : ByteArray} {a : Nat} (h : Blk w s (scC S (a : Int)) 133) : CxIn w (w.alloc (.cells #[.pointer (some ⟨s, 0, none⟩)] 107)) s S a := ⟨h.alloc _, Blk.new _ _ _, gr_of s ((Below.refl _ _).alloc (Nat.le_refl _) _)⟩
theorem CxIn.on {w W W2 : World} {s : Nat} {S : ByteArray} {a b : Nat} (h : CxIn w W s S a) (hb : Blk W2 s (scC S (b : Int)) 133) (hg : W.grownBy W2 (some s)) : CxIn w W2 s S b :=
  ⟨hb, h.p.grown hg (fun e => h.sc.ne h.p (by decide) (by simpa using e)), h.gr.trans hg⟩
theorem Own.lit1 (W : World) (t : ByteArray) : Own (W.alloc (.cells #[.string t] 9)) 0 9 1 (.slice (some ⟨W.heap.size, 0, none⟩) 1 1) (strRows [t]) := Own.lit W #[.string t] 9 rfl (Nat.zero_le _)
set_option maxRecDepth 20000 in
set_option maxHeartbeats 1000000 in
theorem cnum_c (s : Nat) (S : ByteArray) (a : Nat) (d : Int) (w : World) (h : Hid (Blk w s (scC S a) 133)) (hsp : Hid (WGood S a [spS] 0 spS)) (hd : Hid (DGood S (a + 1) d)) (hS2 : S.size ≤ 1000000) :
    Calls Tryz.prog 80 #[.agg #[.pointer (some ⟨s, 0, none⟩)]] w fun e w' => e = .returned (.int .i64 d) ∧ Blk w' s (scC S ((a + 2 : Nat) : Int)) 133 ∧ w.grownBy w' (some s) := by
  have HC := Lib.hid (CxIn.start h.out)
  go_enter Tryz.func80, Tryz.ntmps80
  go_upto_region 1 with fail
  generalize w.alloc (.cells #[.pointer (some ⟨s, 0, none⟩)] 107) = W1 at HC ⊢
  have x0 : W1.cell? ⟨w.heap.size, 0, none⟩ = some (.pointer (some ⟨s, 0, none⟩)) := HC.out.p.cell 0
  have HO := Lib.hid (Own.lit1 W1 spS)
  have HS := Lib.hid (HC.out.alloc (.cells #[.string spS] 9)).sc
  have xl := HC.out.p.lt
  go_upto_region 2 with (first | (go_at_call 79; with_reducible refine (word_c s S a _ [spS] 0 spS _ HS HO hsp hS2 (by decide)).mono ?_; rintro e w2 ⟨rfl, hb2, hg2⟩))
  have HC2 : Hid (CxIn w w2 s S (a + 1)) := Lib.hid ((HC.out.alloc _).on (b := a + 1) hb2 hg2)
  clear hb2 hg2 HS HO x0 xl HC
  have x0 : w2.cell? ⟨w.heap.size, 0, none⟩ = some (.pointer (some ⟨s, 0, none⟩)) := HC2.out.p.cell 0
  have HS2 := Lib.hid HC2.out.sc
  have xl := HC2.out.p.lt
  go_wp2_with (first | (go_at_call 119; with_reducible refine (number_c s S (a + 1) d _ HS2 hd hS2).mono ?_; rintro e w3 ⟨rfl, hb2, hg2⟩))
  go_ret
  exact ⟨rfl, hb2, HC2.out.gr.trans hg2⟩
set_option maxRecDepth 20000 in
set_option maxHeartbeats 1000000 in
theorem cid_c (s : Nat) (S : ByteArray) (a : Nat) (w : World) (h : Hid (Blk w s (scC S a) 133)) (hsp : Hid (WGood S a [spS] 0 spS)) (hd : Hid (LGood S (a + 1))) (hS2 : S.size ≤ 1000000) :
    Calls Tryz.prog 82 #[.agg #[.pointer (some ⟨s, 0, none⟩)]] w fun e w' => e = .returned (.string (S.extract (a + 1) (a + 2))) ∧ Blk w' s (scC S ((a + 2 : Nat) : Int)) 133 ∧ w.grownBy w' (some s) := by
  have HC := Lib.hid (CxIn.start h.out)
  go_enter Tryz.func82, Tryz.ntmps82
  go_upto_region 1 with fail
  generalize w.alloc (.cells #[.pointer (some ⟨s, 0, none⟩)] 107) = W1 at HC ⊢
  have x0 : W1.cell? ⟨w.heap.size, 0, none⟩ = some (.pointer (some ⟨s, 0, none⟩)) := HC.out.p.cell 0
  have HO := Lib.hid (Own.lit1 W1 spS)
  have HS := Lib.hid (HC.out.alloc (.cells #[.string spS] 9)).sc
  have xl := HC.out.p.lt
  go_upto_region 2 with (first | (go_at_call 79; with_reducible refine (word_c s S a _ [spS] 0 spS _ HS HO hsp hS2 (by decide)).mono ?_; rintro e w2 ⟨rfl, hb2, hg2⟩))
  have HC2 : Hid (CxIn w w2 s S (a + 1)) := Lib.hid ((HC.out.alloc _).on (b := a + 1) hb2 hg2)
  clear hb2 hg2 HS HO x0 xl HC
  have x0 : w2.cell? ⟨w.heap.size, 0, none⟩ = some (.pointer (some ⟨s, 0, none⟩)) := HC2.out.p.cell 0
  have HS2 := Lib.hid HC2.out.sc
  have xl := HC2.out.p.lt
  go_wp2_with (first | (go_at_call 121; with_reducible refine (identifier_c s S (a + 1) _ HS2 hd hS2).mono ?_; rintro e w3 ⟨rfl, hb2, hg2⟩))
  go_ret
  exact ⟨rfl, hb2, HC2.out.gr.trans hg2⟩
set_option maxRecDepth 20000 in
set_option maxHeartbeats 1000000 in
theorem choice_c (s : Nat) (S : ByteArray) (a : Nat) (v : Value) (ws : List ByteArray) (j : Nat) (t : ByteArray) (w : World) (h : Hid (Blk w s (scC S a) 133)) (hv : Hid (Own w 0 9 1 v (strRows ws))) (hsp : Hid (WGood S a [spS] 0 spS)) (hd : Hid (WGood S (a + 1) ws j t)) (hS2 : S.size ≤ 1000000) (hws : ws.length ≤ 1000) :
    Calls Tryz.prog 83 #[.agg #[.pointer (some ⟨s, 0, none⟩)], v] w fun e w' => e = .returned (.int .i64 j) ∧ Blk w' s (scC S ((a + 1 + t.size : Nat) : Int)) 133 ∧ w.grownBy w' (some s) := by
  obtain ⟨gv, cv, rfl⟩ : ∃ gv cv, v = .slice (some ⟨gv, 0, none⟩) ws.length cv := by
    obtain ⟨g', cap, he, _⟩ := hv.out.cell (k := j) (cs := #[.string t]) (by simp [strRows, hd.out.at_])
    exact ⟨g', cap, by rw [he]; simp [strRows]⟩
  have HC := Lib.hid (CxIn.start h.out)
  have HV := Lib.hid (hv.out.alloc (.cells #[.pointer (some ⟨s, 0, none⟩)] 107))
  go_enter Tryz.func83, Tryz.ntmps83
  go_upto_region 1 with fail
  generalize w.alloc (.cells #[.pointer (some ⟨s, 0, none⟩)] 107) = W1 at HC HV ⊢
  have x0 : W1.cell? ⟨w.heap.size, 0, none⟩ = some (.pointer (some ⟨s, 0, none⟩)) := HC.out.p.cell 0
  have HO := Lib.hid (Own.lit1 W1 spS)
  have HV2 := Lib.hid (HV.out.alloc (.cells #[.string spS] 9))
  have HS := Lib.hid (HC.out.alloc (.cells #[.string spS] 9)).sc
  have xl := HC.out.p.lt
  go_upto_region 2 with (first | (go_at_call 79; with_reducible refine (word_c s S a _ [spS] 0 spS _ HS HO hsp hS2 (by decide)).mono ?_; rintro e w2 ⟨rfl, hb2, hg2⟩))
  have HC2 : Hid (CxIn w w2 s S (a + 1)) := Lib.hid ((HC.out.alloc _).on (b := a + 1) hb2 hg2)
  have HV3 := Lib.hid (HV2.out.kept hg2 (.inr (HV2.out.ne_blk HS.out (by decide))))
  clear hb2 hg2 HS HO x0 xl HC HV2 HV
  have x0 : w2.cell? ⟨w.heap.size, 0, none⟩ = some (.pointer (some ⟨s, 0, none⟩)) := HC2.out.p.cell 0
  have HS2 := Lib.hid HC2.out.sc
  have xl := HC2.out.p.lt
  go_wp2_with (first | (go_at_call 79; with_reducible refine (word_c s S (a + 1) _ ws j t _ HS2 HV3 hd hS2 hws).mono ?_; rintro e w3 ⟨rfl, hb2, hg2⟩))
  go_ret
  exact ⟨rfl, hb2, HC2.out.gr.trans hg2⟩
end Go.Proofs.YtdgaflcnigljlaaGreatDoor
/-
  Contract of package cattext: a fixed anchor. No further condition.
-/
namespace Go.Proofs.YtdgaflcnigljlaaGreatDoor
open Go.RowKit Go.Proofs Go.MapKept Go.Proofs.YtdgaflcnigljlaaGreatDoorW.PrintWords
set_option linter.unusedVariables false
@[reducible] def anZ : Array Value := #[.int .i64 0, .int .i64 0, .int .i64 0, .int .i64 0, .int .i64 0, .int .i64 0]
@[reducible] def fixS : ByteArray := ⟨#[102, 105, 120, 101, 100]⟩
@[reducible] def easS : ByteArray := ⟨#[101, 97, 115, 116, 101, 114]⟩
@[reducible] def nthS : ByteArray := ⟨#[110, 116, 104]⟩
@[reducible] def nlS : ByteArray := ⟨#[10]⟩
structure AnIn (w W : World) (s : Nat) (S : ByteArray) (a : Nat) (v : Array Value) : Prop where
  sc : Blk W s (scC S (a : Int)) 133
  p : Blk W w.heap.size #[.pointer (some ⟨s, 0, none⟩)] 107
  r : Blk W (w.heap.size + 1) anZ 59
  v : Blk W (w.heap.size + 1 + 1) v 59
  gr : w.grownBy W (some s)
theorem _root_.Go.World.grownBy.trans0 {w W W2 : World} {s g : Nat} (h : w.grownBy W (some s)) (h2 : W.grownBy W2 (some g)) (hg : w.heap.size ≤ g) : w.grownBy W2 (some s) :=
  ⟨h2.os.trans h.os, h2.tape.trans h.tape, h2.output.trans h.output, Nat.le_trans h.size h2.size, fun k hk hn => (h2.block k (by have := h.size; omega) (fun e => by cases e; omega)).trans (h.block k hk hn)⟩
theorem AnIn.below {w W W2 : World} {s : Nat} {S : ByteArray} {a : Nat} {v : Array Value} (h : AnIn w W s S a v) (hb : Below W.heap.size W W2) : AnIn w W2 s S a v := ⟨h.sc.below hb, h.p.below hb, h.r.below hb, h.v.below hb, gr_lowB h.gr h.gr.size hb⟩
theorem AnIn.alloc {w W : World} {s : Nat} {S : ByteArray} {a : Nat} {v : Array Value} (h : AnIn w W s S a v) (o : Obj) : AnIn w (W.alloc o) s S a v := h.below ((Below.refl _ _).alloc (Nat.le_refl _) _)
theorem AnIn.drew {w W : World} {s : Nat} {S : ByteArray} {a : Nat} {v : Array Value} (h : AnIn w W s S a v) : AnIn w W.drew s S a v := h.below ((Below.refl _ _).drew)
theorem AnIn.on {w W W2 : World} {s : Nat} {S : ByteArray} {a b : Nat} {v : Array Value} (h : AnIn w W s S a v) (hb : Blk W2 s (scC S (b : Int)) 133) (hg : W.grownBy W2 (some s)) : AnIn w W2 s S b v :=
  ⟨hb, h.p.grown hg (fun e => h.sc.ne h.p (by decide) (by simpa using e)), h.r.grown hg (fun e => h.sc.ne h.r (by decide) (by simpa using e)), h.v.grown hg (fun e => h.sc.ne h.v (by decide) (by simpa using e)), h.gr.trans hg⟩
theorem AnIn.p0 {w W : World} {s : Nat} {S : ByteArray} {a : Nat} {v : Array Value} (h : AnIn w W s S a v) : W.cell? ⟨w.heap.size, 0, none⟩ = some (.pointer (some ⟨s, 0, none⟩)) := h.p.cell 0
theorem Own.lit3 (W : World) (t1 t2 t3 : ByteArray) : Own (W.alloc (.cells #[.string t1, .string t2, .string t3] 9)) 0 9 1 (.slice (some ⟨W.heap.size, 0, none⟩) 3 3) (strRows [t1, t2, t3]) := by
  refine ⟨⟨by simp [strRows], .inr ⟨W.heap.size, 3, #[.string t1, .string t2, .string t3], rfl, Nat.zero_le _, Blk.new _ _ _, by simp [strRows], by decide, rfl, rfl⟩⟩, ?_⟩
  intro r hr
  simp [strRows] at hr
  rcases hr with rfl | rfl | rfl <;> rfl
def set6 (W : World) (g : Nat) (a b c d e f : Value) : World := (((((W.setCell ⟨g, 0, none⟩ a).setCell ⟨g, 1, none⟩ b).setCell ⟨g, 2, none⟩ c).setCell ⟨g, 3, none⟩ d).setCell ⟨g, 4, none⟩ e).setCell ⟨g, 5, none⟩ f
theorem set6_gr (W : World) (g : Nat) (a b c d e f : Value) : W.grownBy (set6 W g a b c d e f) (some g) :=
  (((((gs_set _ _ _ _).trans (gs_set _ _ _ _)).trans (gs_set _ _ _ _)).trans (gs_set _ _ _ _)).trans (gs_set _ _ _ _)).trans (gs_set _ _ _ _)
theorem set6_blk {W : World} {g : Nat} {x0 x1 x2 x3 x4 x5 : Value} {t : TypeId} (h : Blk W g #[x0, x1, x2, x3, x4, x5] t) (a b c d e f : Value) : Blk (set6 W g a b c d e f) g #[a, b, c, d, e, f] t :=
  (((((h.put 0 _ rfl).put 1 _ rfl).put 2 _ rfl).put 3 _ rfl).put 4 _ rfl).put 5 _ rfl
theorem AnIn.put {w W : World} {s : Nat} {S : ByteArray} {q : Nat} {v : Array Value} {x0 x1 x2 x3 x4 x5 : Value} (h : AnIn w W s S q #[x0, x1, x2, x3, x4, x5]) (a b c d e f : Value) : AnIn w (set6 W (w.heap.size + 1 + 1) a b c d e f) s S q #[a, b, c, d, e, f] :=
  ⟨h.sc.grown (set6_gr _ _ _ _ _ _ _ _) (by simpa using (h.sc.ne h.v (by decide)).symm), h.p.grown (set6_gr _ _ _ _ _ _ _ _) (by simpa using (h.p.ne h.v (by decide)).symm), h.r.grown (set6_gr _ _ _ _ _ _ _ _) (by simp), set6_blk h.v _ _ _ _ _ _,
   h.gr.trans0 (set6_gr _ _ _ _ _ _ _ _) (by omega)⟩
structure AGood (S : ByteArray) (a : Nat) (m d : Int) : Prop where
  g1 : WGood S a [spS] 0 spS
  g2 : WGood S (a + 1) [fixS, easS, nthS] 0 fixS
  g3 : WGood S (a + 6) [spS] 0 spS
  g4 : DGood S (a + 7) m
  g5 : WGood S (a + 8) [spS] 0 spS
  g6 : DGood S (a + 9) d
  g7 : WGood S (a + 10) [nlS] 0 nlS
set_option maxRecDepth 20000 in
set_option maxHeartbeats 1000000 in
theorem anchor_c (s : Nat) (S : ByteArray) (a : Nat) (m d : Int) (w : World) (h : Hid (Blk w s (scC S a) 133)) (hg : Hid (AGood S a m d)) (hS2 : S.size ≤ 1000000) :
    Calls Tryz.prog 84 #[.agg #[.pointer (some ⟨s, 0, none⟩)]] w fun e w' => e = .returned (.agg #[.int .i64 1, .int .i64 m, .int .i64 d, .int .i64 0, .int .i64 0, .int .i64 0]) ∧ Blk w' s (scC S ((a + 11 : Nat) : Int)) 133 ∧ w.grownBy w' (some s) := by
  have HA : Hid (AnIn w (((w.alloc (.cells #[.pointer (some ⟨s, 0, none⟩)] 107)).alloc (.cells anZ 59)).alloc (.cells anZ 59)) s S a anZ) := Lib.hid ⟨((h.out.alloc _).alloc _).alloc _, ((Blk.new _ _ _).alloc _).alloc _, (Blk.new2 _ _ _ _).alloc _, Blk.new3 _ _ _ _ _, gr_of s ((((Below.refl _ _).alloc (Nat.le_refl _) _).alloc (by simp) _).alloc (by simp; omega) _)⟩
  go_enter Tryz.func84, Tryz.ntmps84
  go_upto_region 2 with fail
  generalize ((w.alloc (.cells #[.pointer (some ⟨s, 0, none⟩)] 107)).alloc (.cells anZ 59)).alloc (.cells anZ 59) = W1 at HA ⊢
  have x0 := HA.out.p0
  have HO := Lib.hid (Own.lit3 W1 fixS easS nthS)
  have HS := Lib.hid (HA.out.alloc (.cells #[.string fixS, .string easS, .string nthS] 9)).sc
  have xl := HA.out.p.lt
  go_upto_region 4 with (first | (go_at_call 83; with_reducible refine (choice_c s S a _ [fixS, easS, nthS] 0 fixS _ HS HO (Lib.hid hg.out.g1) (Lib.hid hg.out.g2) hS2 (by decide)).mono ?_; rintro e w2 ⟨rfl, hb2, hg2⟩))
  have H4 : Hid (AnIn w w2.drew s S (a + 6) anZ) := Lib.hid (((HA.out.alloc _).on (b := a + 6) hb2 hg2).drew)
  clear hb2 hg2 HS HO x0 xl HA
  have x0 : w2.cell? ⟨w.heap.size, 0, none⟩ = some (.pointer (some ⟨s, 0, none⟩)) := H4.out.p0
  have xl : w.heap.size < w2.heap.size := H4.out.p.lt
  have hne : w.heap.size ≠ w.heap.size + 1 + 1 := by omega
  go_region_held3 (fun w' => w'.cell? ⟨w.heap.size, 0, none⟩ = some (.pointer (some ⟨s, 0, none⟩)))
    (first | (with_reducible exact AnIn.p0 H4.out) | (with_reducible exact AnIn.p0 H5.out) | (with_reducible exact AnIn.p0 H6.out) | (simp only [cell_set_ne hne]; with_reducible exact AnIn.p0 H6.out))
    (first
      | (go_at_call 80; with_reducible refine (cnum_c s S (a + 6) m _ (Lib.hid H4.out.sc) (Lib.hid hg.out.g3) (Lib.hid hg.out.g4) hS2).mono ?_; rintro e w3 ⟨rfl, hb, hg1⟩; have H5 := Lib.hid (AnIn.on H4.out hb hg1); clear hb hg1)
      | (go_at_call 80; with_reducible refine (cnum_c s S (a + 8) d _ (Lib.hid H5.out.sc) (Lib.hid hg.out.g5) (Lib.hid hg.out.g6) hS2).mono ?_; rintro e w4 ⟨rfl, hb, hg1⟩; have H6 := Lib.hid (AnIn.on H5.out hb hg1); obtain ⟨⟨y0, y1, y2, y3, y4, y5⟩, yl⟩ := Blk.c6 (AnIn.v H6.out); have f0 := Blk.frozen (AnIn.v H6.out) 0; have f1 := Blk.frozen (AnIn.v H6.out) 1; have f2 := Blk.frozen (AnIn.v H6.out) 2; have f3 := Blk.frozen (AnIn.v H6.out) 3; have f4 := Blk.frozen (AnIn.v H6.out) 4; have f5 := Blk.frozen (AnIn.v H6.out) 5; clear hb hg1))
  have H7 := Lib.hid (H6.out.put (v := anZ) (.int .i64 1) (.int .i64 m) (.int .i64 d) (.int .i64 0) (.int .i64 0) (.int .i64 0))
  clear y0 y1 y2 y3 y4 y5 f0 f1 f2 f3 f4 f5 yl x0 xl H4 H5 H6 hne
  unfold set6 at H7
  generalize (((((w4.setCell ⟨w.heap.size + 1 + 1, 0, none⟩ (.int .i64 1)).setCell ⟨w.heap.size + 1 + 1, 1, none⟩ (.int .i64 m)).setCell ⟨w.heap.size + 1 + 1, 2, none⟩ (.int .i64 d)).setCell ⟨w.heap.size + 1 + 1, 3, none⟩ (.int .i64 0)).setCell ⟨w.heap.size + 1 + 1, 4, none⟩ (.int .i64 0)).setCell ⟨w.heap.size + 1 + 1, 5, none⟩ (.int .i64 0) = w5 at *
  have x0 := H7.out.p0
  have xl := H7.out.p.lt
  have HO := Lib.hid (Own.lit1 w5 nlS)
  have HS := Lib.hid (H7.out.alloc (.cells #[.string nlS] 9)).sc
  go_upto_region 16 with (first | (go_at_call 79; with_reducible refine (word_c s S (a + 10) _ [nlS] 0 nlS _ HS HO (Lib.hid hg.out.g7) hS2 (by decide)).mono ?_; rintro e w6 ⟨rfl, hb2, hg2⟩))
  have H8 : Hid (AnIn w w6 s S (a + 11) _) := Lib.hid ((H7.out.alloc _).on (b := a + 11) hb2 hg2)
  clear hb2 hg2 HS HO x0 xl H7
  obtain ⟨⟨y0, y1, y2, y3, y4, y5⟩, yl⟩ := Blk.c6 H8.out.v
  obtain ⟨⟨z0, z1, z2, z3, z4, z5⟩, zl⟩ := Blk.c6 H8.out.r
  have f0 := H8.out.r.frozen 0
  have f1 := H8.out.r.frozen 1
  have f2 := H8.out.r.frozen 2
  have f3 := H8.out.r.frozen 3
  have f4 := H8.out.r.frozen 4
  have f5 := H8.out.r.frozen 5
  go_wp2_with fail
  have HR := set6_blk H8.out.r (.int .i64 1) (.int .i64 m) (.int .i64 d) (.int .i64 0) (.int .i64 0) (.int .i64 0)
  have HG := H8.out.gr.trans0 (set6_gr w6 (w.heap.size + 1) (.int .i64 1) (.int .i64 m) (.int .i64 d) (.int .i64 0) (.int .i64 0) (.int .i64 0)) (by omega)
  have HS := H8.out.sc.grown (set6_gr w6 (w.heap.size + 1) (.int .i64 1) (.int .i64 m) (.int .i64 d) (.int .i64 0) (.int .i64 0) (.int .i64 0)) (by simpa using (H8.out.sc.ne H8.out.r (by decide)).symm)
  refine bodyPost_ret (results_cell_row rfl _ _ (w.heap.size + 1) 59 #[.int .i64 1, .int .i64 m, .int .i64 d, .int .i64 0, .int .i64 0, .int .i64 0] (0, 0) _ rfl HR Tryz.underlying59 rfl (by kernel_rfl)) rfl ⟨rfl, HS, HG⟩
end Go.Proofs.YtdgaflcnigljlaaGreatDoor
/-
  The text of the calendar that the laws' functions parse first: what stands in it. No further condition.
-/
namespace Go.Proofs.YtdgaflcnigljlaaGreatDoor
open Go.RowKit Go.Proofs Go.MapKept Go.Proofs.YtdgaflcnigljlaaGreatDoorW.PrintWords
set_option linter.unusedVariables false
@[reducible] def S0 : ByteArray := ⟨#[99, 97, 116, 97, 108, 111, 103, 117, 101, 10, 102, 114, 101, 101, 32, 53, 10, 115, 101, 97, 115, 111, 110, 32, 115, 32, 51, 32, 56, 32, 102, 105, 120, 101, 100, 32, 49, 32, 49, 10, 101, 110, 100, 10]⟩
@[reducible] def hcS : ByteArray := ⟨#[99, 97, 116, 97, 108, 111, 103, 117, 101, 10, 102, 114, 101, 101]⟩
@[reducible] def enS : ByteArray := ⟨#[101, 110, 100]⟩
@[reducible] def feS : ByteArray := ⟨#[102, 101, 97, 115, 116]⟩
@[reducible] def seS : ByteArray := ⟨#[115, 101, 97, 115, 111, 110]⟩
theorem g_hc : WGood S0 0 [hcS] 0 hcS := wg_of (by kernel_rfl)
theorem g_sp1 : WGood S0 14 [spS] 0 spS := wg_of (by kernel_rfl)
theorem g_nl1 : WGood S0 16 [nlS] 0 nlS := wg_of (by kernel_rfl)
theorem g_se : WGood S0 17 [enS, feS, seS] 2 seS := wg_of (by kernel_rfl)
theorem g_sp2 : WGood S0 23 [spS] 0 spS := wg_of (by kernel_rfl)
theorem g_sp3 : WGood S0 25 [spS] 0 spS := wg_of (by kernel_rfl)
theorem g_sp4 : WGood S0 27 [spS] 0 spS := wg_of (by kernel_rfl)
theorem g_en : WGood S0 40 [enS, feS, seS] 0 enS := wg_of (by kernel_rfl)
theorem g_nl2 : WGood S0 43 [nlS] 0 nlS := wg_of (by kernel_rfl)
theorem d_free : DGood S0 15 5 := ⟨by kernel_rfl, by decide, by decide, by decide +kernel, by decide⟩
theorem d_sun : DGood S0 26 3 := ⟨by kernel_rfl, by decide, by decide, by decide +kernel, by decide⟩
theorem d_wk : DGood S0 28 8 := ⟨by kernel_rfl, by decide, by decide, by decide +kernel, by decide⟩
theorem l_id : LGood S0 24 := ⟨by decide +kernel, by decide +kernel, by decide +kernel, by decide⟩
theorem a_st : AGood S0 29 1 1 := ⟨wg_of (by kernel_rfl), wg_of (by kernel_rfl), wg_of (by kernel_rfl), ⟨by kernel_rfl, by decide, by decide, by decide +kernel, by decide⟩, wg_of (by kernel_rfl), ⟨by kernel_rfl, by decide, by decide, by decide +kernel, by decide⟩, wg_of (by kernel_rfl)⟩
theorem id_ext : S0.extract 24 25 = ⟨#[115]⟩ := by kernel_rfl
end Go.Proofs.YtdgaflcnigljlaaGreatDoor
/-
  Contract of package cattext: the catalogue of the constant text. No further condition.
-/
namespace Go.Proofs.YtdgaflcnigljlaaGreatDoor
open Go.RowKit Go.Proofs Go.MapKept Go.Proofs.YtdgaflcnigljlaaGreatDoorW.PrintWords
set_option linter.unusedVariables false
@[reducible] def hdL : List ByteArray := [enS, feS, seS]
@[reducible] def seaC : Array Value := #[.string ⟨#[115]⟩, .int .i64 3, .int .i64 8, .int .i64 1, .int .i64 1, .int .i64 1, .int .i64 0, .int .i64 0, .int .i64 0]
structure CtIn (w W : World) (s : Nat) (a : Nat) (f : Int) (u : Value) (rows : List (Array Value)) : Prop where
  sc : Blk W s (scC S0 (a : Int)) 133
  p : Blk W w.heap.size #[.pointer (some ⟨s, 0, none⟩)] 107
  c : Blk W (w.heap.size + 1) #[.int .i64 f, u, .slice none 0 0] 25
  so : Own W w.heap.size 67 9 u rows
  gr : w.grownBy W (some s)
variable {w W W2 : World} {s a b : Nat} {f : Int} {u : Value} {rows : List (Array Value)}
theorem CtIn.below (h : CtIn w W s a f u rows) (hb : Below W.heap.size W W2) : CtIn w W2 s a f u rows := ⟨h.sc.below hb, h.p.below hb, h.c.below hb, h.so.below hb, gr_lowB h.gr h.gr.size hb⟩
theorem CtIn.alloc (h : CtIn w W s a f u rows) (o : Obj) : CtIn w (W.alloc o) s a f u rows := h.below ((Below.refl _ _).alloc (Nat.le_refl _) _)
theorem CtIn.drew (h : CtIn w W s a f u rows) : CtIn w W.drew s a f u rows := h.below ((Below.refl _ _).drew)
theorem CtIn.on (h : CtIn w W s a f u rows) (hb : Blk W2 s (scC S0 (b : Int)) 133) (hg : W.grownBy W2 (some s)) : CtIn w W2 s b f u rows :=
  ⟨hb, h.p.grown hg (fun e => h.sc.ne h.p (by decide) (by simpa using e)), h.c.grown hg (fun e => h.sc.ne h.c (by decide) (by simpa using e)), h.so.kept hg (.inr (h.so.ne_blk h.sc (by decide))), h.gr.trans hg⟩
theorem CtIn.p0 (h : CtIn w W s a f u rows) : W.cell? ⟨w.heap.size, 0, none⟩ = some (.pointer (some ⟨s, 0, none⟩)) := h.p.cell 0
theorem CtIn.free (h : CtIn w W s a f u rows) (f' : Int) : CtIn w (W.setCell ⟨w.heap.size + 1, 0, none⟩ (.int .i64 f')) s a f' u rows :=
  ⟨h.sc.far (h.sc.ne h.c (by decide)) _, h.p.far (h.p.ne h.c (by decide)) _, h.c.put 0 _ rfl, h.so.kept (gs_set _ _ _ _) (.inr (h.so.ne_blk h.c (by decide))), h.gr.trans0 (gs_set _ _ _ _) (by omega)⟩
@[reducible] def seaZ : Array Value := #[.string ⟨#[]⟩, .int .i64 0, .int .i64 0, .int .i64 0, .int .i64 0, .int .i64 0, .int .i64 0, .int .i64 0, .int .i64 0]
theorem sea_facts {q : Nat} (h : Blk W q seaZ 67) : (W.cell? ⟨q, 0, none⟩ = some (.string ⟨#[]⟩) ∧ W.cell? ⟨q, 1, none⟩ = some (.int .i64 0) ∧ W.cell? ⟨q, 2, none⟩ = some (.int .i64 0) ∧ W.cell? ⟨q, 3, none⟩ = some (.int .i64 0) ∧ W.cell? ⟨q, 4, none⟩ = some (.int .i64 0) ∧ W.cell? ⟨q, 5, none⟩ = some (.int .i64 0) ∧ W.cell? ⟨q, 6, none⟩ = some (.int .i64 0) ∧ W.cell? ⟨q, 7, none⟩ = some (.int .i64 0) ∧ W.cell? ⟨q, 8, none⟩ = some (.int .i64 0)) ∧ (W.frozen? ⟨q, 0, none⟩ = false ∧ W.frozen? ⟨q, 1, none⟩ = false ∧ W.frozen? ⟨q, 2, none⟩ = false ∧ W.frozen? ⟨q, 3, none⟩ = false ∧ W.frozen? ⟨q, 4, none⟩ = false ∧ W.frozen? ⟨q, 5, none⟩ = false ∧ W.frozen? ⟨q, 6, none⟩ = false ∧ W.frozen? ⟨q, 7, none⟩ = false ∧ W.frozen? ⟨q, 8, none⟩ = false) := ⟨⟨h.cell 0, h.cell 1, h.cell 2, h.cell 3, h.cell 4, h.cell 5, h.cell 6, h.cell 7, h.cell 8⟩, ⟨h.frozen 0, h.frozen 1, h.frozen 2, h.frozen 3, h.frozen 4, h.frozen 5, h.frozen 6, h.frozen 7, h.frozen 8⟩⟩
@[reducible] def sea3 : Array Value := #[.string ⟨#[115]⟩, .int .i64 3, .int .i64 8, .int .i64 0, .int .i64 0, .int .i64 0, .int .i64 0, .int .i64 0, .int .i64 0]
/-- The same, and maybe the block of the new season. -/
structure CtX (w W : World) (s a : Nat) (f : Int) (u : Value) (rows : List (Array Value)) (hb : Nat) (o : Option Nat) : Prop where
  c : CtIn w W s a f u rows
  q : ∀ q, o = some q → w.heap.size ≤ q ∧ w.heap.size < q ∧ Blk W q seaZ 67
  ho : Own W 0 9 1 (.slice (some ⟨hb, 0, none⟩) 3 3) (strRows hdL)
section
variable {o : Option Nat} {hb : Nat}
theorem CtX.p0 (h : CtX w W s a f u rows hb o) : W.cell? ⟨w.heap.size, 0, none⟩ = some (.pointer (some ⟨s, 0, none⟩)) := h.c.p0
theorem CtX.pa (h : CtX w W s a f u rows hb o) (x : Obj) : (W.alloc x).cell? ⟨w.heap.size, 0, none⟩ = some (.pointer (some ⟨s, 0, none⟩)) := (h.c.alloc x).p0
theorem CtX.lt (h : CtX w W s a f u rows hb o) : w.heap.size < W.heap.size := h.c.p.lt
theorem CtX.on (h : CtX w W s a f u rows hb o) (hbb : Blk W2 s (scC S0 (b : Int)) 133) (hg : W.grownBy W2 (some s)) : CtX w W2 s b f u rows hb o :=
  ⟨h.c.on hbb hg, fun q hq => ⟨(h.q q hq).1, (h.q q hq).2.1, (h.q q hq).2.2.grown hg (fun e => h.c.sc.ne (h.q q hq).2.2 (by decide) (by simpa using e))⟩, h.ho.kept hg (.inr (h.ho.ne_blk h.c.sc (by decide)))⟩
theorem CtX.new (h : CtX w W s a f u rows hb none) : CtX w (W.alloc (.cells seaZ 67)) s a f u rows hb (some W.heap.size) :=
  ⟨h.c.alloc _, fun q hq => by cases hq; exact ⟨h.c.gr.size, h.c.p.lt, Blk.new _ _ _⟩, h.ho.alloc _⟩
theorem CtX.drew (h : CtX w W s a f u rows hb o) : CtX w W.drew s a f u rows hb o := ⟨h.c.drew, h.q, h.ho⟩
theorem CtX.al (h : CtX w W s a f u rows hb none) (x : Obj) : CtX w (W.alloc x) s a f u rows hb none := ⟨h.c.alloc _, fun q hq => (by cases hq), h.ho.alloc _⟩
theorem sid_c (h : Hid (CtX w W s 23 f u rows hb o)) : Calls Tryz.prog 82 #[.agg #[.pointer (some ⟨s, 0, none⟩)]] W fun e w' => e = .returned (.string ⟨#[115]⟩) ∧ CtX w w' s 25 f u rows hb o :=
  (cid_c s S0 23 W (Lib.hid h.out.c.sc) (Lib.hid g_sp2) (Lib.hid l_id) (by decide)).mono fun e w' hp => ⟨hp.1, h.out.on (b := 25) hp.2.1 hp.2.2⟩
theorem ssun_c (h : Hid (CtX w W s 25 f u rows hb o)) : Calls Tryz.prog 80 #[.agg #[.pointer (some ⟨s, 0, none⟩)]] W fun e w' => e = .returned (.int .i64 3) ∧ CtX w w' s 27 f u rows hb o :=
  (cnum_c s S0 25 3 W (Lib.hid h.out.c.sc) (Lib.hid g_sp3) (Lib.hid d_sun) (by decide)).mono fun e w' hp => ⟨hp.1, h.out.on (b := 27) hp.2.1 hp.2.2⟩
theorem swk_c (h : Hid (CtX w W s 27 f u rows hb o)) : Calls Tryz.prog 80 #[.agg #[.pointer (some ⟨s, 0, none⟩)]] W fun e w' => e = .returned (.int .i64 8) ∧ CtX w w' s 29 f u rows hb o :=
  (cnum_c s S0 27 8 W (Lib.hid h.out.c.sc) (Lib.hid g_sp4) (Lib.hid d_wk) (by decide)).mono fun e w' hp => ⟨hp.1, h.out.on (b := 29) hp.2.1 hp.2.2⟩
theorem anch_c (h : Hid (CtX w W s 29 f u rows hb o)) : Calls Tryz.prog 84 #[.agg #[.pointer (some ⟨s, 0, none⟩)]] W fun e w' => e = .returned (.agg #[.int .i64 1, .int .i64 1, .int .i64 1, .int .i64 0, .int .i64 0, .int .i64 0]) ∧ CtX w w' s 40 f u rows hb o ∧ W.grownBy w' (some s) :=
  (anchor_c s S0 29 1 1 W (Lib.hid h.out.c.sc) (Lib.hid a_st) (by decide)).mono fun e w' hp => ⟨hp.1, h.out.on (b := 40) hp.2.1 hp.2.2, hp.2.2⟩
theorem gr9 (W : World) (g : Nat) (a b c d e f g1 h i : Value) : W.grownBy (((((((((W.setCell ⟨g, 0, none⟩ a).setCell ⟨g, 1, none⟩ b).setCell ⟨g, 2, none⟩ c).setCell ⟨g, 3, none⟩ d).setCell ⟨g, 4, none⟩ e).setCell ⟨g, 5, none⟩ f).setCell ⟨g, 6, none⟩ g1).setCell ⟨g, 7, none⟩ h).setCell ⟨g, 8, none⟩ i) (some g) :=
  ((((((((gs_set _ _ _ _).trans (gs_set _ _ _ _)).trans (gs_set _ _ _ _)).trans (gs_set _ _ _ _)).trans (gs_set _ _ _ _)).trans (gs_set _ _ _ _)).trans (gs_set _ _ _ _)).trans (gs_set _ _ _ _)).trans (gs_set _ _ _ _)
theorem Blk.set9 {q : Nat} {x0 x1 x2 x3 x4 x5 x6 x7 x8 : Value} {t : TypeId} (hq : Blk W q #[x0, x1, x2, x3, x4, x5, x6, x7, x8] t) (a b c d e f g1 h i : Value) : Blk (((((((((W.setCell ⟨q, 0, none⟩ a).setCell ⟨q, 1, none⟩ b).setCell ⟨q, 2, none⟩ c).setCell ⟨q, 3, none⟩ d).setCell ⟨q, 4, none⟩ e).setCell ⟨q, 5, none⟩ f).setCell ⟨q, 6, none⟩ g1).setCell ⟨q, 7, none⟩ h).setCell ⟨q, 8, none⟩ i) q #[a, b, c, d, e, f, g1, h, i] t := by
  have b0 := Blk.put (cs' := #[a, x1, x2, x3, x4, x5, x6, x7, x8]) hq 0 a rfl
  have b1 := Blk.put (cs' := #[a, b, x2, x3, x4, x5, x6, x7, x8]) b0 1 b rfl
  have b2 := Blk.put (cs' := #[a, b, c, x3, x4, x5, x6, x7, x8]) b1 2 c rfl
  have b3 := Blk.put (cs' := #[a, b, c, d, x4, x5, x6, x7, x8]) b2 3 d rfl
  have b4 := Blk.put (cs' := #[a, b, c, d, e, x5, x6, x7, x8]) b3 4 e rfl
  have b5 := Blk.put (cs' := #[a, b, c, d, e, f, x6, x7, x8]) b4 5 f rfl
  have b6 := Blk.put (cs' := #[a, b, c, d, e, f, g1, x7, x8]) b5 6 g1 rfl
  have b7 := Blk.put (cs' := #[a, b, c, d, e, f, g1, h, x8]) b6 7 h rfl
  have b8 := Blk.put (cs' := #[a, b, c, d, e, f, g1, h, i]) b7 8 i rfl
  exact b8
theorem gr6 (W : World) (g : Nat) (a b c d e f : Value) : W.grownBy ((((((W.setCell ⟨g, 3, none⟩ a).setCell ⟨g, 4, none⟩ b).setCell ⟨g, 5, none⟩ c).setCell ⟨g, 6, none⟩ d).setCell ⟨g, 7, none⟩ e).setCell ⟨g, 8, none⟩ f) (some g) :=
  (((((gs_set _ _ _ _).trans (gs_set _ _ _ _)).trans (gs_set _ _ _ _)).trans (gs_set _ _ _ _)).trans (gs_set _ _ _ _)).trans (gs_set _ _ _ _)
theorem Blk.set6 {q : Nat} {x0 x1 x2 x3 x4 x5 x6 x7 x8 : Value} {t : TypeId} (hq : Blk W q #[x0, x1, x2, x3, x4, x5, x6, x7, x8] t) (a b c d e f : Value) : Blk ((((((W.setCell ⟨q, 3, none⟩ a).setCell ⟨q, 4, none⟩ b).setCell ⟨q, 5, none⟩ c).setCell ⟨q, 6, none⟩ d).setCell ⟨q, 7, none⟩ e).setCell ⟨q, 8, none⟩ f) q #[x0, x1, x2, a, b, c, d, e, f] t := by
  have b0 := Blk.put (cs' := #[x0, x1, x2, a, x4, x5, x6, x7, x8]) hq 3 a rfl
  have b1 := Blk.put (cs' := #[x0, x1, x2, a, b, x5, x6, x7, x8]) b0 4 b rfl
  have b2 := Blk.put (cs' := #[x0, x1, x2, a, b, c, x6, x7, x8]) b1 5 c rfl
  have b3 := Blk.put (cs' := #[x0, x1, x2, a, b, c, d, x7, x8]) b2 6 d rfl
  have b4 := Blk.put (cs' := #[x0, x1, x2, a, b, c, d, e, x8]) b3 7 e rfl
  have b5 := Blk.put (cs' := #[x0, x1, x2, a, b, c, d, e, f]) b4 8 f rfl
  exact b5
theorem CtIn.grq {q : Nat} {cs : Array Value} {f' : Int} (h : CtIn w W s a f' (.slice none 0 0) []) (hq : Blk W q cs 67) (ql : w.heap.size ≤ q) (hg : W.grownBy W2 (some q)) : CtIn w W2 s a f' (.slice none 0 0) [] :=
  ⟨h.sc.grown hg (fun e => h.sc.ne hq (by decide) (by simp at e; exact e.symm)), h.p.grown hg (fun e => h.p.ne hq (by decide) (by simp at e; exact e.symm)), h.c.grown hg (fun e => h.c.ne hq (by decide) (by simp at e; exact e.symm)), h.so.kept hg (.inl rfl), h.gr.trans0 hg ql⟩
theorem CtIn.set9 {q : Nat} {x0 x1 x2 x3 x4 x5 x6 x7 x8 : Value} {f' : Int} (h : CtIn w W s a f' (.slice none 0 0) []) (hq : Blk W q #[x0, x1, x2, x3, x4, x5, x6, x7, x8] 67) (ql : w.heap.size ≤ q) (a' b c d e f g1 h1 i : Value) : CtIn w (((((((((W.setCell ⟨q, 0, none⟩ a').setCell ⟨q, 1, none⟩ b).setCell ⟨q, 2, none⟩ c).setCell ⟨q, 3, none⟩ d).setCell ⟨q, 4, none⟩ e).setCell ⟨q, 5, none⟩ f).setCell ⟨q, 6, none⟩ g1).setCell ⟨q, 7, none⟩ h1).setCell ⟨q, 8, none⟩ i) s a f' (.slice none 0 0) [] :=
  h.grq hq ql (gr9 _ _ _ _ _ _ _ _ _ _ _)
theorem CtX.grq {q : Nat} {cs : Array Value} {f' : Int} (h : CtX w W s a f' (.slice none 0 0) [] hb o) (hq : Blk W q cs 67) (ql : w.heap.size ≤ q) (hg : W.grownBy W2 (some q)) : CtX w W2 s a f' (.slice none 0 0) [] hb none :=
  ⟨h.c.grq hq ql hg, fun q hq => (by cases hq), h.ho.kept hg (.inr (h.ho.ne_blk hq (by decide)))⟩
theorem gr_none {g : Nat} (h : W.grownBy W2 none) : W.grownBy W2 (some g) := ⟨h.os, h.tape, h.output, h.size, fun k hk hn => h.block k hk (by simp)⟩
theorem CtX.app {v1 : Value} {f' : Int} (h : CtX w W s a f' (.slice none 0 0) [] hb o) (ho : Own W2 w.heap.size 67 9 v1 [seaC]) (hg : W.grownBy W2 none) : CtX w (W2.setCell ⟨w.heap.size + 1, 1, none⟩ v1) s a f' v1 [seaC] hb none := by
  have c2 := h.c.c.grown hg (by simp)
  have s2 := h.c.sc.grown hg (by simp)
  have o2 := h.ho.kept hg (.inr (by simp [Value.ownBlock]))
  exact ⟨⟨s2.far (s2.ne c2 (by decide)) _, (h.c.p.grown hg (by simp)).far (by simp) _, c2.put 1 _ rfl, ho.kept (gs_set _ _ _ _) (.inr (ho.ne_blk c2 (by decide))), (h.c.gr.trans (gr_none hg)).trans0 (gs_set _ _ _ _) (by omega)⟩, fun q hq => (by cases hq), o2.kept (gs_set _ _ _ _) (.inr (o2.ne_blk c2 (by decide)))⟩
theorem info67 : (Tryz.prog.info? 67).map (fun i => (i.zero, i.size, i.bytes)) = some (some (.agg seaZ), 9, 80) := by kernel_rfl
theorem seaC_one : ∀ x ∈ seaC.toList, x.oneCell' = true := fun x hx => by
  simp only [seaC, List.mem_cons, List.not_mem_nil, or_false] at hx
  rcases hx with rfl | rfl | rfl | rfl | rfl | rfl | rfl | rfl | rfl <;> rfl
theorem swk_s {q : Nat} (h : Hid (CtX w W s 27 f u rows hb (some q))) : Calls Tryz.prog 80 #[.agg #[.pointer (some ⟨s, 0, none⟩)]] W fun e w' => e = .returned (.int .i64 8) ∧ CtX w w' s 29 f u rows hb (some q) ∧ (w.heap.size ≤ q ∧ w.heap.size < q ∧ Blk w' q seaZ 67) :=
  (swk_c h).mono fun e w' hp => ⟨hp.1, hp.2, hp.2.q q rfl⟩
end
theorem CtIn.sc44 (h : CtIn w W s 44 f u rows) : Blk W s (scC S0 ((S0.size : Nat) : Int)) 133 := h.sc
set_option maxRecDepth 20000 in
set_option maxHeartbeats 20000000 in
theorem catalogue_c (s : Nat) (w : World) (h : Hid (Blk w s (scC S0 0) 133)) :
    Calls Tryz.prog 53 #[.agg #[.pointer (some ⟨s, 0, none⟩)]] w fun e w' => ∃ u, e = .returned (.agg #[.int .i64 5, u, .slice none 0 0]) ∧ Own w' w.heap.size 67 9 u [seaC] ∧ Blk w' s (scC S0 44) 133 ∧ w.grownBy w' (some s) := by
  have HA : Hid (CtIn w ((w.alloc (.cells #[.pointer (some ⟨s, 0, none⟩)] 107)).alloc (.cells #[.int .i64 0, .slice none 0 0, .slice none 0 0] 25)) s 0 0 (.slice none 0 0) []) := Lib.hid ⟨(h.out.alloc _).alloc _, (Blk.new _ _ _).alloc _, Blk.new2 _ _ _ _, Own.nil _ _ _ _, gr_of s (((Below.refl _ _).alloc (Nat.le_refl _) _).alloc (by simp) _)⟩
  have hz : S0.size ≤ 1000000 := by decide
  go_enter Tryz.func53, Tryz.ntmps53
  go_upto_region 1 with fail
  generalize (w.alloc (.cells #[.pointer (some ⟨s, 0, none⟩)] 107)).alloc (.cells #[.int .i64 0, .slice none 0 0, .slice none 0 0] 25) = W1 at HA ⊢
  have x0 := HA.out.p0
  have HO := Lib.hid (Own.lit1 W1 hcS)
  have HS := Lib.hid (HA.out.alloc (.cells #[.string hcS] 9)).sc
  have xl := HA.out.p.lt
  go_upto_region 2 with (first | (go_at_call 79; with_reducible refine (word_c s S0 0 _ [hcS] 0 hcS _ HS HO (Lib.hid g_hc) hz (by decide)).mono ?_; rintro e w2 ⟨rfl, hb2, hg2⟩))
  have H2 : Hid (CtIn w w2 s 14 0 (.slice none 0 0) []) := Lib.hid ((HA.out.alloc _).on (b := 14) hb2 hg2)
  clear hb2 hg2 HS HO x0 xl HA
  have x0 := H2.out.p0
  have HS := Lib.hid H2.out.sc
  have xl := H2.out.p.lt
  go_upto_region 3 with (first | (go_at_call 80; with_reducible refine (cnum_c s S0 14 5 _ HS (Lib.hid g_sp1) (Lib.hid d_free) hz).mono ?_; rintro e w3 ⟨rfl, hb2, hg2⟩; have H3 : Hid (CtIn w w3 s 16 0 (.slice none 0 0) []) := Lib.hid (H2.out.on (b := 16) hb2 hg2); have y0 := H3.out.c.cell 0; have y1 := H3.out.c.frozen 0; have yl := H3.out.c.lt; simp only [List.getElem?_toArray, List.getElem?_cons_zero] at y0))
  have H4 := Lib.hid (H3.out.free 5)
  clear hb2 hg2 H3 H2 HS x0 xl y0 y1 yl
  generalize w3.setCell ⟨w.heap.size + 1, 0, none⟩ (.int .i64 5) = w4 at H4 ⊢
  have x0 := H4.out.p0
  have HO := Lib.hid (Own.lit1 w4 nlS)
  have HS := Lib.hid (H4.out.alloc (.cells #[.string nlS] 9)).sc
  have xl := H4.out.p.lt
  go_upto_region 4 with (first | (go_at_call 79; with_reducible refine (word_c s S0 16 _ [nlS] 0 nlS _ HS HO (Lib.hid g_nl1) hz (by decide)).mono ?_; rintro e w5 ⟨rfl, hb2, hg2⟩))
  have H5 : Hid (CtIn w w5 s 17 5 (.slice none 0 0) []) := Lib.hid ((H4.out.alloc _).on (b := 17) hb2 hg2)
  clear hb2 hg2 HS HO x0 xl H4
  have HO := Lib.hid (Own.lit3 w5 enS feS seS)
  have H6 := Lib.hid (H5.out.alloc (.cells #[.string enS, .string feS, .string seS] 9))
  go_wp2_with fail
  obtain ⟨hb, hhb⟩ : ∃ hb, w5.heap.size = hb := ⟨_, rfl⟩
  rw [hhb] at HO ⊢
  clear hhb H5
  generalize w5.alloc (.cells #[.string enS, .string feS, .string seS] 9) = w6 at HO H6 ⊢
  go_loopg [3] 2 (fun g v3 wr => v3 = .slice (some ⟨hb, 0, none⟩) 3 3 ∧ Hid (Own wr 0 9 1 (.slice (some ⟨hb, 0, none⟩) 3 3) (strRows hdL)) ∧ ((g = 2 ∧ Hid (CtIn w wr s 17 5 (.slice none 0 0) [])) ∨ (g = 1 ∧ ∃ u, Hid (CtIn w wr s 40 5 u [seaC]))))
  case atStart => exact ⟨rfl, HO, .inl ⟨rfl, H6⟩⟩
  case round =>
    clear HO H6
    obtain ⟨rfl, HO, hc⟩ := hrel
    rcases hc with ⟨hg, HC⟩ | ⟨hg, u, HC⟩
    · have G := Lib.hid hg
      clear hg
      have x0 := HC.out.p0
      have HS := Lib.hid HC.out.sc
      have xl := HC.out.p.lt
      go_upto_region 17 with (first | (go_at_call 54; with_reducible refine (err_c s S0 17 _ HS).mono ?_; rintro e w7 ⟨rfl, hb7⟩; have H7 := Lib.hid (CtIn.below HC.out hb7); have HO7 := Lib.hid (Own.below HO.out hb7); have x0 := CtIn.p0 H7.out; have HS := Lib.hid (CtIn.sc H7.out); have xl := Blk.lt (CtIn.p H7.out); clear hb7) | (go_at_call 79; with_reducible refine (word_c s S0 17 _ hdL 2 seS _ HS HO7 (Lib.hid g_se) hz (by decide)).mono ?_; rintro e w8 ⟨rfl, hb8, hg8⟩))
      have H8 : Hid (CtX w w8.drew s 23 5 (.slice none 0 0) [] hb none) := Lib.hid (CtX.drew ⟨H7.out.on (b := 23) hb8 hg8, fun _ h => (by cases h), HO7.out.kept hg8 (.inr (HO7.out.ne_blk H7.out.sc (by decide)))⟩)
      have HA8 : Hid (CtX w (w8.alloc (.cells seaZ 67)).drew s 23 5 (.slice none 0 0) [] hb (some w8.heap.size)) := Lib.hid (CtX.drew (CtX.new ⟨H7.out.on (b := 23) hb8 hg8, fun _ h => (by cases h), HO7.out.kept hg8 (.inr (HO7.out.ne_blk H7.out.sc (by decide)))⟩))
      clear hb8 hg8 HS x0 xl H7 HC HO HO7
      have x0 : w8.cell? ⟨w.heap.size, 0, none⟩ = some (.pointer (some ⟨s, 0, none⟩)) := H8.out.p0
      have xl : w.heap.size < w8.heap.size := H8.out.c.p.lt
      go_cut [5] (fun v5 wx => ∃ q, v5 = .pointer (some ⟨q, 0, none⟩) ∧ w.heap.size ≤ q ∧ Hid (CtX w wx s 29 5 (.slice none 0 0) [] hb none) ∧ Hid (Blk wx q sea3 67))
      case first =>
        go_region_held3 (fun w' => w'.cell? ⟨w.heap.size, 0, none⟩ = some (.pointer (some ⟨s, 0, none⟩)))
          (first
            | (with_reducible exact CtX.p0 H8.out) | (with_reducible exact CtX.p0 HA8.out) | (with_reducible exact x0) | (with_reducible exact CtX.pa Hc.out _) | (simp only [cell_set_ne hqe]; with_reducible exact x0))
          (first
            | (go_at_call 82; (first | with_reducible refine (sid_c H8).mono ?_ | with_reducible refine (sid_c HA8).mono ?_); rintro e w9 ⟨rfl, h9⟩; have Hc := Lib.hid h9; have x0 := CtX.p0 h9; have xl := CtX.lt h9; clear h9)
            | (go_at_call 80; (first | with_reducible refine (ssun_c Hc).mono ?_ | with_reducible refine (ssun_c (Lib.hid (CtX.new Hc.out))).mono ?_); clear x0 xl Hc; rintro e wa ⟨rfl, h9⟩; have Hc := Lib.hid h9; have x0 := CtX.p0 h9; have xl := CtX.lt h9; clear h9)
            | (go_at_call 80; (first | with_reducible refine (swk_s Hc).mono ?_ | with_reducible refine (swk_s (Lib.hid (CtX.new Hc.out))).mono ?_); clear x0 xl Hc; rintro e wb ⟨rfl, h9, q1, q2, hq⟩; have Hc := Lib.hid h9; have hqe := Nat.ne_of_lt q2; obtain ⟨⟨z0, z1, z2, z3, z4, z5, z6, z7, z8⟩, ⟨f0, f1, f2, f3, f4, f5, f6, f7, f8⟩⟩ := sea_facts hq; have x0 := CtX.p0 h9; have xl := CtX.lt h9; clear h9)
            | (go_at_call 80; with_reducible refine (swk_c Hc).mono ?_; clear x0 xl Hc; rintro e wb ⟨rfl, h9⟩; have Hc := Lib.hid h9; have x0 := CtX.p0 h9; have xl := CtX.lt h9; clear h9))
        all_goals (go_wp2_with fail)
        all_goals go_meet
        · exact ⟨_, rfl, Hc.out.c.gr.size, Lib.hid (Hc.out.al _), Lib.hid (Blk.new _ _ _)⟩
        all_goals exact ⟨_, rfl, q1, Lib.hid (Hc.out.grq hq q1 (gr9 _ _ _ _ _ _ _ _ _ _ _)), Lib.hid (Blk.set9 hq _ _ _ _ _ _ _ _ _)⟩
      case rest =>
        obtain ⟨q, rfl, ql, HF, HQ⟩ := hcut
        clear H8 HA8 x0 xl
        have x0 := HF.out.p0
        have xl := HF.out.lt
        have sq : (some s : Option Nat) ≠ some q := fun e => HF.out.c.sc.ne HQ.out (by decide) (by simpa using e)
        go_upto_region 19 with ((go_at_call 84; with_reducible refine (anch_c HF).mono ?_; rintro e wd ⟨rfl, hg0, hgd⟩; have HG := Lib.hid hg0; have HQ2 := Lib.hid (Blk.grown HQ.out hgd sq); obtain ⟨⟨z0, z1, z2, z3, z4, z5, z6, z7, z8⟩, zl⟩ := Blk.c9 HQ2.out; have f3 := Blk.frozen HQ2.out 3; have f4 := Blk.frozen HQ2.out 4; have f5 := Blk.frozen HQ2.out 5; have f6 := Blk.frozen HQ2.out 6; have f7 := Blk.frozen HQ2.out 7; have f8 := Blk.frozen HQ2.out 8; clear hg0 hgd))
        have HG2 := Lib.hid (HG.out.grq HQ2.out ql (gr6 wd q (.int .i64 1) (.int .i64 1) (.int .i64 1) (.int .i64 0) (.int .i64 0) (.int .i64 0)))
        have HQ3 := Lib.hid (Blk.set6 HQ2.out (.int .i64 1) (.int .i64 1) (.int .i64 1) (.int .i64 0) (.int .i64 0) (.int .i64 0))
        clear z0 z1 z2 z3 z4 z5 z6 z7 z8 zl f3 f4 f5 f6 f7 f8 HG HQ2 HF HQ x0 xl
        generalize (((((wd.setCell ⟨q, 3, none⟩ (.int .i64 1)).setCell ⟨q, 4, none⟩ (.int .i64 1)).setCell ⟨q, 5, none⟩ (.int .i64 1)).setCell ⟨q, 6, none⟩ (.int .i64 0)).setCell ⟨q, 7, none⟩ (.int .i64 0)).setCell ⟨q, 8, none⟩ (.int .i64 0) = we at *
        obtain ⟨⟨z0, z1, z2, z3, z4, z5, z6, z7, z8⟩, zl⟩ := Blk.c9 HQ3.out
        have y1 := HG2.out.c.c.cell 1
        have yl := HG2.out.c.c.lt
        have yf := HG2.out.c.c.frozen 1
        simp only [List.getElem?_toArray, List.getElem?_cons_succ, List.getElem?_cons_zero] at y1
        have SO := Lib.hid seaC_one
        go_wp2_with (at_builtin; refine own_app (w0 := we) 22 67 rfl _ _ rfl Tryz.underlying22 info67 rfl (by decide) (by decide) (.slice none 0 0) rfl seaC rfl rfl SO.out HG2.out.c.so (Below.refl _ _) HG2.out.c.gr.size (by decide) ?_; intro v1 wf ho hb2 hg hat; have HN := Lib.hid (CtX.app HG2.out ho hg); obtain ⟨a6, m6, c6, rfl⟩ := ho.named; have YB := Blk.grown (CtIn.c (CtX.c HG2.out)) hg (by simp [Value.ownBlock]); have yf2 := Blk.frozen YB 1; have yl2 := Blk.lt YB; have y2 := Blk.cell YB 1; simp only [List.getElem?_toArray, List.getElem?_cons_succ, List.getElem?_cons_zero] at y2; clear ho hb2 hg hat YB)
        go_roundg 1
        case measure => have := G.out; omega
        case rel => exact ⟨rfl, Lib.hid HN.out.ho, .inr ⟨rfl, _, Lib.hid HN.out.c⟩⟩
    · have G := Lib.hid hg
      clear hg
      obtain ⟨gu, cu, rfl⟩ : ∃ gu cu, u = .slice (some ⟨gu, 0, none⟩) 1 cu := by
        obtain ⟨g', cap, he, _⟩ := HC.out.so.cell (k := 0) (cs := seaC) rfl
        exact ⟨g', cap, he⟩
      have x0 := HC.out.p0
      have HS := Lib.hid HC.out.sc
      have xl := HC.out.p.lt
      go_upto_region 8 with (first | (go_at_call 54; with_reducible refine (err_c s S0 40 _ HS).mono ?_; rintro e w7 ⟨rfl, hb7⟩; have H7 := Lib.hid (CtIn.below HC.out hb7); have HO7 := Lib.hid (Own.below HO.out hb7); have x0 := CtIn.p0 H7.out; have HS := Lib.hid (CtIn.sc H7.out); have xl := Blk.lt (CtIn.p H7.out); clear hb7) | (go_at_call 79; with_reducible refine (word_c s S0 40 _ hdL 0 enS _ HS HO7 (Lib.hid g_en) hz (by decide)).mono ?_; rintro e w8 ⟨rfl, hb8, hg8⟩))
      have H8 : Hid (CtIn w w8 s 43 5 _ [seaC]) := Lib.hid (H7.out.on (b := 43) hb8 hg8)
      clear hb8 hg8 HS x0 xl H7 HC HO HO7
      have x0 := H8.out.p0
      have xl := H8.out.p.lt
      have HO := Lib.hid (Own.lit1 w8 nlS)
      have HS := Lib.hid (H8.out.alloc (.cells #[.string nlS] 9)).sc
      go_upto_region 9 with (first | (go_at_call 79; with_reducible refine (word_c s S0 43 _ [nlS] 0 nlS _ HS HO (Lib.hid g_nl2) hz (by decide)).mono ?_; rintro e w9 ⟨rfl, hb9, hg9⟩))
      have H9 : Hid (CtIn w w9 s 44 5 _ [seaC]) := Lib.hid ((H8.out.alloc _).on (b := 44) hb9 hg9)
      clear hb9 hg9 HS x0 xl H8 HO
      have x0 := H9.out.p0
      have xl := H9.out.p.lt
      have HS := Lib.hid H9.out.sc44
      go_upto_region 10 with (first | (go_at_call 81; with_reducible refine (end_c s S0 _ HS).mono ?_; rintro e wa ⟨rfl, hba⟩))
      have Ha := Lib.hid (CtIn.below H9.out hba)
      clear hba HS x0 xl H9
      obtain ⟨y0, y1, y2⟩ := (Blk.c3 Ha.out.c).1
      obtain ⟨f0, f1, f2⟩ := (Blk.c3 Ha.out.c).2
      have yl := Ha.out.c.lt
      go_wp2_with fail
      have HQ := ((Ha.out.c.put 0 (.int .i64 5) rfl).put 1 (.slice (some ⟨gu, 0, none⟩) 1 cu) rfl).put 2 (.slice none 0 0) rfl
      have GG : wa.grownBy (((wa.setCell ⟨w.heap.size + 1, 0, none⟩ (.int .i64 5)).setCell ⟨w.heap.size + 1, 1, none⟩ (.slice (some ⟨gu, 0, none⟩) 1 cu)).setCell ⟨w.heap.size + 1, 2, none⟩ (.slice none 0 0)) (some (w.heap.size + 1)) := ((gs_set _ _ _ _).trans (gs_set _ _ _ _)).trans (gs_set _ _ _ _)
      refine bodyPost_ret (results_cell_row rfl _ _ (w.heap.size + 1) 25 #[.int .i64 5, .slice (some ⟨gu, 0, none⟩) 1 cu, .slice none 0 0] (0, 0) _ rfl HQ Tryz.underlying25 rfl (by kernel_rfl)) rfl ⟨_, rfl, Ha.out.so.kept GG (.inr (Ha.out.so.ne_blk Ha.out.c (by decide))), Ha.out.sc.grown GG (by simpa using (Ha.out.sc.ne Ha.out.c (by decide)).symm), Ha.out.gr.trans0 GG (by omega)⟩
end Go.Proofs.YtdgaflcnigljlaaGreatDoor
/-
  Contract of package cattext: the constant text parsed. No further condition.
-/
namespace Go.Proofs.YtdgaflcnigljlaaGreatDoor
open Go.RowKit Go.Proofs Go.MapKept Go.Proofs.YtdgaflcnigljlaaGreatDoorW.PrintWords
set_option linter.unusedVariables false
structure PaB (w W : World) (s : Nat) : Prop where
  bel : Below w.heap.size w W
  res : Blk W w.heap.size #[.int .i64 0, .slice none 0 0, .slice none 0 0] 25
  sl : w.heap.size < s
theorem PaB.below {w W W2 : World} {s : Nat} (h : PaB w W s) (hb : Below W.heap.size W W2) : PaB w W2 s := ⟨below_then h.bel h.bel.size hb, h.res.below hb, h.sl⟩
theorem PaB.alloc {w W : World} {s : Nat} (h : PaB w W s) (o : Obj) : PaB w (W.alloc o) s := h.below ((Below.refl _ _).alloc (Nat.le_refl _) _)
theorem PaB.on {w W W2 : World} {s : Nat} (h : PaB w W s) (hg : W.grownBy W2 (some s)) : PaB w W2 s :=
  ⟨h.bel.grown hg h.bel.size (fun k e => by cases e; exact Nat.le_of_lt h.sl), h.res.grown hg (by have := h.sl; simp; omega), h.sl⟩
set_option maxRecDepth 20000 in
set_option maxHeartbeats 1000000 in
theorem parse_c (w : World) : Calls Tryz.prog 27 #[.string S0] w fun e w' => ∃ u, e = .returned (.tuple #[.agg #[.int .i64 5, u, .slice none 0 0], .int .i64 0, .int .i64 0]) ∧ Own w' w.heap.size 67 9 u [seaC] ∧ Below w.heap.size w w' := by
  have HP0 : PaB w (w.alloc (.cells #[.int .i64 0, .slice none 0 0, .slice none 0 0] 25)) (w.heap.size + 1) := ⟨(Below.refl _ _).alloc (Nat.le_refl _) _, Blk.new _ _ _, Nat.lt_succ_self _⟩
  have HP := Lib.hid HP0
  clear HP0
  go_enter Tryz.func27, Tryz.ntmps27
  go_upto_region 2 with (first | (go_at_call 52; with_reducible refine (scan_new S0 _).mono ?_; rintro e w1 ⟨rfl, hs1, hb1⟩; simp only [World.size_alloc] at hs1; have HP1 := Lib.hid ((PaB.below HP.out hb1).alloc (.cells #[.pointer (some ⟨w.heap.size + 1, 0, none⟩)] 107)); have HS1 := Lib.hid (Blk.alloc hs1 (.cells #[.pointer (some ⟨w.heap.size + 1, 0, none⟩)] 107)); have HQ1 := Lib.hid (Blk.new w1 #[.pointer (some ⟨w.heap.size + 1, 0, none⟩)] 107); clear hs1 hb1))
  obtain ⟨g, hgd⟩ : ∃ g, w1.heap.size = g := ⟨_, rfl⟩
  rw [hgd] at HQ1 ⊢
  clear hgd
  generalize w1.alloc (.cells #[.pointer (some ⟨w.heap.size + 1, 0, none⟩)] 107) = W1 at *
  have ne : (some (w.heap.size + 1) : Option Nat) ≠ some g := fun e => HS1.out.ne HQ1.out (by decide) (by simpa using e)
  have p0 : W1.cell? ⟨g, 0, none⟩ = some (.pointer (some ⟨w.heap.size + 1, 0, none⟩)) := HQ1.out.cell 0
  have pl := HQ1.out.lt
  have hw1 := HP1.out.bel.size
  go_upto_region 3 with (first | (go_at_call 53; with_reducible refine (catalogue_c (w.heap.size + 1) _ HS1).mono ?_; rintro e w2 ⟨u, rfl, ho, hs2, hg2⟩; obtain ⟨ua, um, uc, rfl⟩ := ho.named; have HP2 := Lib.hid (PaB.alloc (PaB.on HP1.out hg2) (.cells #[.int .i64 5, .slice ua um uc, .slice none 0 0] 25)); have HS2 := Lib.hid (Blk.alloc hs2 (.cells #[.int .i64 5, .slice ua um uc, .slice none 0 0] 25)); have HQ2 := Lib.hid (Blk.alloc (Blk.grown HQ1.out hg2 ne) (.cells #[.int .i64 5, .slice ua um uc, .slice none 0 0] 25)); have HO2 := Lib.hid (Own.alloc (Own.less ho hw1) (.cells #[.int .i64 5, .slice ua um uc, .slice none 0 0] 25)); have HK2 := Lib.hid (Blk.new w2 #[.int .i64 5, .slice ua um uc, .slice none 0 0] 25); clear ho hs2 hg2))
  clear p0 pl HP1 HS1 HQ1 hw1
  obtain ⟨k, hkd⟩ : ∃ k, w2.heap.size = k := ⟨_, rfl⟩
  rw [hkd] at HK2 ⊢
  clear hkd
  generalize w2.alloc (.cells #[.int .i64 5, .slice ua um uc, .slice none 0 0] 25) = W2 at *
  have p0 : W2.cell? ⟨g, 0, none⟩ = some (.pointer (some ⟨w.heap.size + 1, 0, none⟩)) := HQ2.out.cell 0
  have pl := HQ2.out.lt
  go_wp2_with (first | (go_at_call 54; with_reducible refine (err_c (w.heap.size + 1) S0 44 _ HS2).mono ?_; rintro e w3 ⟨rfl, hb3⟩; have HP3 := Lib.hid (PaB.below HP2.out hb3); have HK3 := Lib.hid (Blk.below HK2.out hb3); have HO3 := Lib.hid (Own.below HO2.out hb3); clear hb3; obtain ⟨⟨x0, x1, x2⟩, xf⟩ := HK3.out.c3; obtain ⟨⟨z0, z1, z2⟩, ⟨f0, f1, f2⟩⟩ := HP3.out.res.c3; have kl := HK3.out.lt))
  have HQ := ((HP3.out.res.put 0 (.int .i64 5) rfl).put 1 (.slice ua um uc) rfl).put 2 (.slice none 0 0) rfl
  have GG : w3.grownBy (((w3.setCell ⟨w.heap.size, 0, none⟩ (.int .i64 5)).setCell ⟨w.heap.size, 1, none⟩ (.slice ua um uc)).setCell ⟨w.heap.size, 2, none⟩ (.slice none 0 0)) (some w.heap.size) := ((gs_set _ _ _ _).trans (gs_set _ _ _ _)).trans (gs_set _ _ _ _)
  refine bodyPost_ret (results_ctt rfl _ _ w.heap.size 25 #[.int .i64 5, .slice ua um uc, .slice none 0 0] (0, 0) _ rfl HQ Tryz.underlying25 rfl (by kernel_rfl)) rfl ⟨_, rfl, HO3.out.kept GG (.inr (HO3.out.ne_blk HP3.out.res (by decide))), HP3.out.bel.grown GG HP3.out.bel.size (fun k e => by cases e; exact Nat.le_refl _)⟩
end Go.Proofs.YtdgaflcnigljlaaGreatDoor
