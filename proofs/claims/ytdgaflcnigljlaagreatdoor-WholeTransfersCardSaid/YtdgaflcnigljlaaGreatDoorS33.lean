/-
  Contracts and plain facts for the laws on the whole program: the parts below say each what they are. No further condition.
-/
import Derived.Test.YtdgaflcnigljlaaGreatDoorS32
set_option linter.unusedSimpArgs false
/-
  Contract of package linescan: the scan of Word. No further condition.
-/
namespace Go.Proofs.YtdgaflcnigljlaaGreatDoor
open Go.RowKit Go.Proofs Go.MapKept Go.Proofs.YtdgaflcnigljlaaGreatDoorW.PrintWords
set_option linter.unusedVariables false
/-- Only some of the blocks below a bound may differ. -/
structure Chg (L : List Nat) (B : Nat) (w W : World) : Prop where
  os : W.os = w.os
  tape : W.tape = w.tape
  output : W.output = w.output
  size : w.heap.size ≤ W.heap.size
  block : ∀ k, k < B → k ∉ L → W.heap[k]? = w.heap[k]?
theorem Chg.refl (L : List Nat) (B : Nat) (w : World) : Chg L B w w := ⟨rfl, rfl, rfl, Nat.le_refl _, fun _ _ _ => rfl⟩
theorem Chg.below {L : List Nat} {w W W2 : World} {B : Nat} (h : Chg L B w W) (hb : Below B W W2) : Chg L B w W2 := ⟨hb.os.trans h.os, hb.tape.trans h.tape, hb.output.trans h.output, Nat.le_trans h.size hb.size, fun k hk hn => (hb.block k hk).trans (h.block k hk hn)⟩
theorem Chg.grown {L : List Nat} {w W W2 : World} {B g : Nat} (h : Chg L B w W) (hb : W.grownBy W2 (some g)) (hB : B ≤ W.heap.size) (hg : g ∈ L ∨ B ≤ g) : Chg L B w W2 := ⟨hb.os.trans h.os, hb.tape.trans h.tape, hb.output.trans h.output, Nat.le_trans h.size hb.size, fun k hk hn => (hb.block k (by omega) (fun e => by cases e; rcases hg with hg | hg; exact hn hg; omega)).trans (h.block k hk hn)⟩
theorem Chg.set {L : List Nat} {w W : World} {B g i : Nat} {v : Value} (h : Chg L B w W) (hB : B ≤ W.heap.size) (hg : g ∈ L ∨ B ≤ g) : Chg L B w (W.setCell ⟨g, i, none⟩ v) := h.grown (gs_set _ _ _ _) hB hg
theorem Chg.blk {L : List Nat} {w W : World} {B g : Nat} {cs : Array Value} {t : TypeId} (h : Chg L B w W) (hb : Blk w g cs t) (hg : g < B) (hn : g ∉ L) : Blk W g cs t := by
  unfold Blk at *; rw [h.block g hg hn]; exact hb
theorem Chg.own {L : List Nat} {w W : World} {B : Nat} {b : Nat} {e : TypeId} {sz : Nat} {v : Value} {rows : List (Array Value)} (h : Chg L B w W) (ho : Own w b e sz v rows) (hB : w.heap.size ≤ B) (hn : ∀ g, v.ownBlock = some g → g ∉ L) : Own W b e sz v rows := by
  refine ⟨⟨ho.1.1, ?_⟩, ho.2⟩
  rcases ho.1.2 with h0 | ⟨g, cap, cur, rfl, h1, h2, h3⟩
  · exact .inl h0
  · have hl := (ho.block g rfl).2
    exact .inr ⟨g, cap, cur, rfl, h1, by rw [h.block g (by omega) (hn g rfl)]; exact h2, h3⟩
/-- One of some words stands at a place, and no other does. -/
structure WGood (S : ByteArray) (a : Nat) (ws : List ByteArray) (j : Nat) (t : ByteArray) : Prop where
  at_ : ws[j]? = some t
  pos : 0 < t.size
  fit : a + t.size ≤ S.size
  eq : S.extract a (a + t.size) = t
  one : ∀ (i : Nat) (u : ByteArray) (m : Nat), ws[i]? = some u → m ≤ t.size → u = S.extract a (a + m) → i = j ∧ m = t.size
theorem WGood.ext {S : ByteArray} {a : Nat} {ws : List ByteArray} {j : Nat} {t : ByteArray} (h : WGood S a ws j t) (k : Nat) (hk : k ≤ t.size) : t.extract 0 k = S.extract a (a + k) := by
  rw [← h.eq, ByteArray.extract_extract]
  congr 1
  all_goals omega
theorem WGood.mat {S : ByteArray} {a : Nat} {ws : List ByteArray} {j : Nat} {t : ByteArray} (h : WGood S a ws j t) (k : Nat) (hk : k < t.size) : wMatch S a k (bt S ((a : Int) + k)) t := by
  refine ⟨hk, ?_, h.ext k (by omega)⟩
  have e := h.eq
  have hf := h.fit
  have e1 : ((a : Int) + k).toNat = a + k := by omega
  have h2 : ((k : Int)).toNat < t.size := by omega
  unfold bt
  rw [dif_pos h2, dif_pos (show ((a : Int) + k).toNat < S.size by omega)]
  simp only [Int.toNat_natCast, e1]
  have h3 : k < (S.extract a (a + t.size)).size := by rw [e]; exact hk
  have e2 : (S.extract a (a + t.size))[k]'h3 = S[a + k]'(by omega) := by rw [ByteArray.getElem_extract]
  have e3 : t[k]'hk = (S.extract a (a + t.size))[k]'h3 := by congr 1; exact e.symm
  rw [e3, e2]
/-- The scan's memory. -/
structure W1In (W : World) (s xb wb fd : Nat) (S : ByteArray) (a : Nat) (v : Value) (ws : List ByteArray) : Prop where
  sc : Blk W s (scC S a) 133
  x : Blk W xb #[.pointer (some ⟨s, 0, none⟩)] 104
  wd : Blk W wb #[v] 40
  f : Blk W fd #[.int .i64 (-1)] 3
  ws : Own W 0 9 1 v (strRows ws)
structure W1Box (w W : World) (s fd : Nat) (S : ByteArray) (a k : Nat) (fnd : Int) : Prop where
  chg : Chg [s, fd] w.heap.size w W
  sc : Blk W s (scC S ((a : Int) + k)) 133
  f : Blk W fd #[.int .i64 fnd] 3
  fr : Blk W w.heap.size #[.int .i64 a] 3
theorem W1Box.below {w W W2 : World} {s fd : Nat} {S : ByteArray} {a k : Nat} {fnd : Int} (h : W1Box w W s fd S a k fnd) (hb : Below W.heap.size W W2) : W1Box w W2 s fd S a k fnd := ⟨h.chg.below ⟨hb.os, hb.tape, hb.output, hb.size, fun k hk => hb.block k (by have := h.chg.size; omega)⟩, h.sc.below hb, h.f.below hb, h.fr.below hb⟩
theorem W1Box.rest {w W : World} {s xb wb fd : Nat} {S : ByteArray} {a k : Nat} {fnd : Int} {v : Value} {ws : List ByteArray} (h : W1Box w W s fd S a k fnd) (hi : W1In w s xb wb fd S a v ws) : Blk W xb #[.pointer (some ⟨s, 0, none⟩)] 104 ∧ Blk W wb #[v] 40 ∧ Own W 0 9 1 v (strRows ws) := by
  have h1 := hi.x.ne hi.sc (by decide)
  have h2 := hi.x.ne hi.f (by decide)
  have h3 := hi.wd.ne hi.sc (by decide)
  have h4 := hi.wd.ne hi.f (by decide)
  refine ⟨h.chg.blk hi.x hi.x.lt (by simp [h1, h2]), h.chg.blk hi.wd hi.wd.lt (by simp [h3, h4]), h.chg.own hi.ws (Nat.le_refl _) ?_⟩
  intro g hg
  have h5 := hi.ws.ne_blk hi.sc (by decide)
  have h6 := hi.ws.ne_blk hi.f (by decide)
  rw [hg] at h5 h6
  simp at h5 h6 ⊢
  exact ⟨h5, h6⟩
theorem W1Box.must {w W W2 : World} {s fd : Nat} {S : ByteArray} {a k : Nat} {fnd : Int} (h : W1Box w W s fd S a k fnd) (hb : Blk W2 s (scC S (((a + k : Nat) : Int) + 1)) 133) (hg : W.grownBy W2 (some s)) : W1Box w W2 s fd S a (k + 1) fnd :=
  ⟨h.chg.grown hg h.chg.size (.inl (by simp)), by have e : ((a + k : Nat) : Int) + 1 = (a : Int) + ((k + 1 : Nat) : Int) := by omega
                                                  rw [e] at hb; exact hb,
   h.f.grown hg (fun e => h.sc.ne h.f (by decide) (by simpa using e)), h.fr.grown hg (fun e => h.sc.ne h.fr (by decide) (by simpa using e))⟩
theorem W1Box.put {w W : World} {s fd : Nat} {S : ByteArray} {a k : Nat} {fnd : Int} (h : W1Box w W s fd S a k fnd) (hl : fd < w.heap.size) (j : Int) : W1Box w (W.setCell ⟨fd, 0, none⟩ (.int .i64 j)) s fd S a k j :=
  ⟨h.chg.set h.chg.size (.inl (by simp)), h.sc.far (h.sc.ne h.f (by decide)) _, h.f.put 0 _ rfl, h.fr.far (by show w.heap.size ≠ fd; omega) _⟩
set_option maxRecDepth 20000 in
set_option maxHeartbeats 1000000 in
theorem word1_c (s xb wb fd : Nat) (S : ByteArray) (a : Nat) (v : Value) (ws : List ByteArray) (j : Nat) (t : ByteArray) (w : World) (h : Hid (W1In w s xb wb fd S a v ws)) (hg : Hid (WGood S a ws j t)) (hS2 : S.size ≤ 1000000) (hws : ws.length ≤ 1000) :
    Calls Tryz.prog 116 #[.pointer (some ⟨xb, 0, none⟩), .pointer (some ⟨fd, 0, none⟩), .pointer (some ⟨wb, 0, none⟩)] w fun e w' => e = .returned (.tuple #[]) ∧ W1Box w w' s fd S a t.size j := by
  obtain ⟨gv, cv, rfl⟩ : ∃ gv cv, v = .slice (some ⟨gv, 0, none⟩) ws.length cv := by
    obtain ⟨g', cap, he, _⟩ := h.out.ws.cell (k := j) (cs := #[.string t]) (by simp [strRows, hg.out.at_])
    exact ⟨g', cap, by rw [he]; simp [strRows]⟩
  have HB : Hid (W1Box w (w.alloc (.cells #[.int .i64 a] 3)) s fd S a 0 (-1)) := Lib.hid ⟨(Chg.refl _ _ _).below ((Below.refl _ _).alloc (Nat.le_refl _) _), by simpa using h.out.sc.alloc _, h.out.f.alloc _, Blk.new _ _ _⟩
  have x0 : w.cell? ⟨xb, 0, none⟩ = some (.pointer (some ⟨s, 0, none⟩)) := h.out.x.cell 0
  have x1 : w.cell? ⟨s, 1, none⟩ = some (.int .i64 a) := h.out.sc.cell 1
  have sl := h.out.sc.lt
  go_enter Tryz.func116, Tryz.ntmps116
  go_wp2_with fail
  go_loopg [] (t.size + 1) (fun g wr => ∃ (k : Nat) (f : Int), k ≤ t.size ∧ Hid (W1Box w wr s fd S a k f) ∧ Hid ((k < t.size ∧ f = -1) ∨ (k = t.size ∧ f = j)) ∧ (g = t.size + 1 - k))
  case atStart => exact ⟨0, -1, by omega, HB, Lib.hid (.inl ⟨hg.out.pos, rfl⟩), by omega⟩
  case round =>
    clear HB x0 x1
    obtain ⟨k, f, k1, HB, HF, hgk⟩ := hrel
    have G := Lib.hid hgk
    clear hgk
    obtain ⟨X, WD, OW⟩ := HB.out.rest h.out
    have HX := Lib.hid X
    have HWD := Lib.hid WD
    have HOW := Lib.hid OW
    clear X WD OW
    have x0 : wr.cell? ⟨xb, 0, none⟩ = some (.pointer (some ⟨s, 0, none⟩)) := HX.out.cell 0
    have x1 : wr.cell? ⟨s, 1, none⟩ = some (.int .i64 ((a : Int) + k)) := HB.out.sc.cell 1
    have x2 : wr.cell? ⟨fd, 0, none⟩ = some (.int .i64 f) := HB.out.f.cell 0
    have x3 : wr.cell? ⟨w.heap.size, 0, none⟩ = some (.int .i64 a) := HB.out.fr.cell 0
    have xl := HX.out.lt
    have fl := HB.out.f.lt
    have sl2 := HB.out.sc.lt
    have rl := HB.out.fr.lt
    by_cases hk : k < t.size
    · have hf : f = -1 := by rcases HF.out with h0 | h0; exact h0.2; omega
      subst hf
      go_upto_region 2 with fail
      go_region
      have hw1 : wrap64 ((a : Int) + k - a) = k := by
        rw [show (a : Int) + k - a = k by omega]
        have := hg.out.fit
        unfold wrap64; omega
      rw [hw1]
      have hW : Below wr.heap.size wr (wr.alloc (.cells #[.int .i64 k] 3)).drew := ((Below.refl _ _).alloc (Nat.le_refl _) _).drew
      have HN : Hid (Blk (wr.alloc (.cells #[.int .i64 k] 3)).drew wr.heap.size #[.int .i64 k] 3) := Lib.hid (Blk.new wr #[.int .i64 k] 3)
      have HB1 := Lib.hid (HB.out.below hW)
      have x0 : (wr.alloc (.cells #[.int .i64 k] 3)).drew.cell? ⟨xb, 0, none⟩ = some (.pointer (some ⟨s, 0, none⟩)) := (HX.out.below hW).cell 0
      have HX1 := Lib.hid (HX.out.below hW)
      have HWD1 := Lib.hid (HWD.out.below hW)
      have HOW1 := Lib.hid (HOW.out.below hW)
      clear HB HX HWD HOW x1 x2 x3 hW hw1
      obtain ⟨nb, hnb⟩ : ∃ nb, wr.heap.size = nb := ⟨_, rfl⟩
      obtain ⟨W1, hW1⟩ : ∃ W1, (wr.alloc (.cells #[.int .i64 k] 3)).drew = W1 := ⟨_, rfl⟩
      rw [hW1] at HN HB1 x0 HX1 HWD1 HOW1 ⊢
      have nlt := HN.out.lt
      rw [hnb] at HN nlt fl sl2 rl xl ⊢
      have wl1 := HWD1.out.lt
      clear hW1
      have hmf : ∀ (fn : Fn) (first cap : Array Value) (w : World), (Instr.makeFunc fn first cap).run Tryz.prog w = .ok (.func fn first cap) w := fun _ _ _ _ => rfl
      have HH : Hid (∀ W, Below W1.heap.size W1 W → Calls Tryz.prog 118 (#[.int .u8 (bt S ((a + k : Nat) : Int))] ++ #[.pointer (some ⟨wb, 0, none⟩), .pointer (some ⟨nb, 0, none⟩), .pointer (some ⟨xb, 0, none⟩), .pointer (some ⟨w.heap.size, 0, none⟩)]) W fun e w' => e = .returned (.bool true) ∧ Below W.heap.size W w') := Lib.hid fun W hW => by
        have hm := hg.out.mat k hk
        rw [show (a : Int) + k = ((a + k : Nat) : Int) by omega] at hm
        exact word11_any s xb wb nb w.heap.size S a k _ ws j t _ W (Lib.hid ⟨HB1.out.sc.below hW, HX1.out.below hW, HWD1.out.below hW, HN.out.below hW, HB1.out.fr.below hW, HOW1.out.below hW⟩) hg.out.at_ hm (by have := hg.out.fit; omega) hS2 hws
      have HSC : Hid (Blk W1 s (scC S ((a + k : Nat) : Int)) 133) := Lib.hid (by have := HB1.out.sc; rw [show (a : Int) + k = ((a + k : Nat) : Int) by omega] at this; exact this)
      have lt2 : a + k < S.size := by have := hg.out.fit; omega
      go_upto_region 4 with (first | (go_at_call 117; with_reducible refine (must_c s S (a + k) 118 #[.pointer (some ⟨wb, 0, none⟩), .pointer (some ⟨nb, 0, none⟩), .pointer (some ⟨xb, 0, none⟩), .pointer (some ⟨w.heap.size, 0, none⟩)] _ HSC lt2 hS2 (fun _ _ => rfl) HH).mono ?_; rintro e w1 ⟨rfl, hb1, hg1⟩))
      have HB2 := Lib.hid (HB1.out.must hb1 hg1)
      clear hb1 hg1 x0 HN HB1 HX1 HWD1 HOW1 wl1 nlt
      have HWD2 := Lib.hid (HB2.out.rest h.out).2.1
      have x0 : w1.cell? ⟨wb, 0, none⟩ = some (.slice (some ⟨gv, 0, none⟩) ws.length cv) := HWD2.out.cell 0
      have xl := HWD2.out.lt
      have f0 : fd < w.heap.size := h.out.f.lt
      go_wp2_with fail
      go_loopw [23] (fun i wr => ∃ q : Nat, q ≤ ws.length ∧ i = .int .i64 q ∧ Hid (W1Box w wr s fd S a (k + 1) (if k + 1 = t.size ∧ j < q then (j : Int) else -1))) (fun i _ => (ws.length - intOf i).toNat)
      case atStart => exact ⟨0, by omega, rfl, by simpa using HB2⟩
      case round =>
        clear HB2 HWD2 HH HSC hmf x0 xl
        obtain ⟨q, q1, rfl, HB3⟩ := hrel
        by_cases hq : q < ws.length
        · obtain ⟨u, hu⟩ : ∃ u, ws[q]? = some u := ⟨_, List.getElem?_eq_getElem (by omega)⟩
          have HU := Lib.hid hu
          have R := Lib.hid (HB3.out.rest h.out)
          have hS' : (a : Int) + ((k : Int) + 1) ≤ S.size := by have := hg.out.fit; omega
          have gl := (R.out.2.2.block gv rfl).2
          have hqi : (q : Int) < (ws.length : Int) := by omega
          have hsl : ∀ wx : World, (Instr.slice 9 (.string S) (some (.int .i64 (a : Int))) (some (.int .i64 ((a : Int) + ((k : Int) + 1)))) none).run Tryz.prog wx = .ok (.string (S.extract a (a + (k + 1)))) wx := fun wx => by
            have := run_slice_string (P := Tryz.prog) wx 9 S .i64 .i64 (a : Int) ((a : Int) + ((k : Int) + 1)) Tryz.underlying9 (by omega) (by omega) (by omega)
            have e2 : ((a : Int) + ((k : Int) + 1)).toNat = a + (k + 1) := by omega
            rw [e2] at this; simpa using this
          have D1 : Below wr.heap.size wr wr.drew := (Below.refl _ _).drew
          have g0 : ∀ x : Of (fun W : World => Below wr.heap.size wr W), x.val.cell? ⟨wb, 0, none⟩ = some (.slice (some ⟨gv, 0, none⟩) ws.length cv) := fun x => (R.out.2.1.below x.ok).cell 0
          have g1 : ∀ x : Of (fun W : World => Below wr.heap.size wr W), x.val.cell? ⟨gv, q, none⟩ = some (.string u) := fun x => (R.out.2.2.below x.ok).at1 (g := gv) rfl q (.string u) (by simp [strRows, HU.out])
          have g2 : ∀ x : Of (fun W : World => Below wr.heap.size wr W), x.val.cell? ⟨xb, 0, none⟩ = some (.pointer (some ⟨s, 0, none⟩)) := fun x => (R.out.1.below x.ok).cell 0
          have g3 : ∀ x : Of (fun W : World => Below wr.heap.size wr W), x.val.cell? ⟨s, 0, none⟩ = some (.string S) := fun x => (HB3.out.sc.below x.ok).cell 0
          have g4 : ∀ x : Of (fun W : World => Below wr.heap.size wr W), x.val.cell? ⟨s, 1, none⟩ = some (.int .i64 ((a : Int) + ((k : Int) + 1))) := fun x => by have := (HB3.out.sc.below x.ok).cell 1; simpa using this
          have g5 : ∀ x : Of (fun W : World => Below wr.heap.size wr W), x.val.cell? ⟨w.heap.size, 0, none⟩ = some (.int .i64 a) := fun x => (HB3.out.fr.below x.ok).cell 0
          clear hu
          by_cases he : u = S.extract a (a + (k + 1))
          · have hb1 := beq_yes he
            have hb2 : (u == S.extract a (a + (k + 1))) = true := (bytes_beq _ _).2 he
            obtain ⟨o1, o2⟩ := hg.out.one q u (k + 1) HU.out (by omega) he
            have O1 := Lib.hid o1
            have O2 := Lib.hid o2
            clear o1 o2
            go_upto_region 7 with fail
            refine wp_region_cls (C := fun W : World => Below wr.heap.size wr W) (by kernel_rfl) (by kernel_rfl) D1 ?_
            haveI : Nonempty (Of (fun W : World => Below wr.heap.size wr W)) := ⟨⟨_, D1⟩⟩
            repeat go_big_quiet_step (fail)
            refine wpQuiet_nil ?_
            intro W' hw'
            obtain ⟨x, rfl⟩ := hw'
            have HB4 := Lib.hid (HB3.out.below x.ok)
            clear g0 g1 g2 g3 g4 g5
            have y0 := HB4.out.f.cell 0
            have y1 := HB4.out.f.frozen 0
            simp only [List.getElem?_toArray, List.getElem?_cons_zero] at y0
            go_wp2_with fail
            refine ⟨⟨q + 1, by omega, by simp, Lib.hid ?_⟩, ?_⟩
            · have := HB4.out.put f0 (q : Int)
              rw [if_pos ⟨O2.out, by have := O1.out; omega⟩, ← O1.out]
              exact this
            · show ((ws.length : Int) - ((q : Int) + 1)).toNat < ((ws.length : Int) - (q : Int)).toNat
              omega
          · have hb1 := beq_no he
            have hb2 : (u == S.extract a (a + (k + 1))) = false := by
              rw [Bool.eq_false_iff]; exact fun z => he ((bytes_beq _ _).1 z)
            have HE := Lib.hid he
            clear he
            go_upto_region 7 with fail
            refine wp_region_cls (C := fun W : World => Below wr.heap.size wr W) (by kernel_rfl) (by kernel_rfl) D1 ?_
            haveI : Nonempty (Of (fun W : World => Below wr.heap.size wr W)) := ⟨⟨_, D1⟩⟩
            repeat go_big_quiet_step (fail)
            refine wpQuiet_nil ?_
            intro W' hw'
            obtain ⟨x, rfl⟩ := hw'
            have HB4 := Lib.hid (HB3.out.below x.ok)
            clear g0 g1 g2 g3 g4 g5
            go_wp2_with fail
            have FE : (if k + 1 = t.size ∧ j < q + 1 then (j : Int) else -1) = (if k + 1 = t.size ∧ j < q then (j : Int) else -1) := by
              by_cases z1 : k + 1 = t.size ∧ j < q
              · rw [if_pos z1, if_pos ⟨z1.1, by omega⟩]
              · rw [if_neg z1, if_neg]
                rintro ⟨z2, z3⟩
                have z4 : q = j := by omega
                subst z4
                have z5 := HU.out
                rw [hg.out.at_] at z5
                cases z5
                exact HE.out (by rw [z2]; exact hg.out.eq.symm)
            refine ⟨⟨q + 1, by omega, by simp, Lib.hid ?_⟩, ?_⟩
            · rw [FE]; exact HB4.out
            · show ((ws.length : Int) - ((q : Int) + 1)).toNat < ((ws.length : Int) - (q : Int)).toNat
              omega
        · have jl : j < ws.length := (List.getElem?_eq_some_iff.1 hg.out.at_).1
          have hql : q = ws.length := by omega
          have hq' : ¬ (q : Int) < (ws.length : Int) := by omega
          have HQ := Lib.hid hql
          clear hql
          go_wp2_with fail
          go_roundg (gk - 1)
          case measure => have := G.out; omega
          case rel =>
            refine ⟨k + 1, if k + 1 = t.size ∧ j < q then (j : Int) else -1, by omega, HB3, Lib.hid ?_, by have := G.out; omega⟩
            by_cases z : k + 1 = t.size
            · exact .inr ⟨z, by rw [if_pos ⟨z, by omega⟩]⟩
            · exact .inl ⟨by omega, by rw [if_neg (fun h => z h.1)]⟩
    · obtain ⟨e1, rfl⟩ : k = t.size ∧ f = j := by rcases HF.out with h0 | h0; omega; exact h0
      subst e1
      have hj0 : ¬ (j : Int) < 0 := by omega
      go_wp2_with fail
      go_end0
      exact ⟨rfl, HB.out⟩
end Go.Proofs.YtdgaflcnigljlaaGreatDoor
/-
  Contract of package linescan: Word. No further condition.
-/
namespace Go.Proofs.YtdgaflcnigljlaaGreatDoor
open Go.RowKit Go.Proofs Go.MapKept Go.Proofs.YtdgaflcnigljlaaGreatDoorW.PrintWords
set_option linter.unusedVariables false
theorem Blk.low {W W2 : World} {g B : Nat} {cs : Array Value} {t : TypeId} (h : Blk W g cs t) (hb : Below B W W2) (hg : g < B) : Blk W2 g cs t := by
  unfold Blk at *; rw [hb.block g hg]; exact h
theorem Chg.over {L : List Nat} {b : Nat} {w W : World} (h : Chg L w.heap.size w W) (hL : ∀ g ∈ L, g < b) : Over b w W := ⟨h.size, fun k hk hl => h.block k hl (fun e => by have := hL k e; omega)⟩
theorem Chg.gr {g fd : Nat} {w0 w W : World} (h : Chg [g, fd] w.heap.size w W) (hb : Below w0.heap.size w0 w) (hf : w0.heap.size ≤ fd) : w0.grownBy W (some g) :=
  ⟨h.os.trans hb.os, h.tape.trans hb.tape, h.output.trans hb.output, Nat.le_trans hb.size h.size, fun k hk hn => (h.block k (by have := hb.size; omega) (by simp; exact ⟨fun e => hn (by rw [e]), by omega⟩)).trans (hb.block k hk)⟩
theorem gr_lowB {w W W2 : World} {g B : Nat} (h : w.grownBy W (some g)) (hB : w.heap.size ≤ B) (hb : Below B W W2) : w.grownBy W2 (some g) :=
  ⟨hb.os.trans h.os, hb.tape.trans h.tape, hb.output.trans h.output, Nat.le_trans h.size hb.size, fun k hk hn => (hb.block k (by omega)).trans (h.block k hk hn)⟩
theorem pos_cast {S : ByteArray} {a n : Nat} {W : World} {s : Nat} (h : Blk W s (scC S ((a : Int) + n)) 133) : Blk W s (scC S ((a + n : Nat) : Int)) 133 := by
  rw [show ((a + n : Nat) : Int) = (a : Int) + n by omega]; exact h
set_option maxRecDepth 20000 in
set_option maxHeartbeats 1000000 in
theorem word_c (s : Nat) (S : ByteArray) (a : Nat) (v : Value) (ws : List ByteArray) (j : Nat) (t : ByteArray) (w : World) (h : Hid (Blk w s (scC S a) 133)) (hv : Hid (Own w 0 9 1 v (strRows ws))) (hg : Hid (WGood S a ws j t)) (hS2 : S.size ≤ 1000000) (hws : ws.length ≤ 1000) :
    Calls Tryz.prog 79 #[.pointer (some ⟨s, 0, none⟩), v] w fun e w' => e = .returned (.int .i64 j) ∧ Blk w' s (scC S ((a + t.size : Nat) : Int)) 133 ∧ w.grownBy w' (some s) := by
  obtain ⟨gv, cv, rfl⟩ : ∃ gv cv, v = .slice (some ⟨gv, 0, none⟩) ws.length cv := by
    obtain ⟨g', cap, he, _⟩ := hv.out.cell (k := j) (cs := #[.string t]) (by simp [strRows, hg.out.at_])
    exact ⟨g', cap, by rw [he]; simp [strRows]⟩
  have hmf : ∀ (fn : Fn) (first cap : Array Value) (w : World), (Instr.makeFunc fn first cap).run Tryz.prog w = .ok (.func fn first cap) w := fun _ _ _ _ => rfl
  have HW : Hid (Below w.heap.size w (((w.alloc (.cells #[.pointer (some ⟨s, 0, none⟩)] 104)).alloc (.cells #[.slice (some ⟨gv, 0, none⟩) ws.length cv] 40)).alloc (.cells #[.int .i64 (-1)] 3))) := Lib.hid ((((Below.refl _ _).alloc (Nat.le_refl _) _).alloc (by simp) _).alloc (by simp; omega) _)
  have HX : Hid (Blk (((w.alloc (.cells #[.pointer (some ⟨s, 0, none⟩)] 104)).alloc (.cells #[.slice (some ⟨gv, 0, none⟩) ws.length cv] 40)).alloc (.cells #[.int .i64 (-1)] 3)) w.heap.size #[.pointer (some ⟨s, 0, none⟩)] 104) := Lib.hid (((Blk.new _ _ _).alloc _).alloc _)
  have HD : Hid (Blk (((w.alloc (.cells #[.pointer (some ⟨s, 0, none⟩)] 104)).alloc (.cells #[.slice (some ⟨gv, 0, none⟩) ws.length cv] 40)).alloc (.cells #[.int .i64 (-1)] 3)) (w.heap.size + 1) #[.slice (some ⟨gv, 0, none⟩) ws.length cv] 40) := Lib.hid ((Blk.new2 _ _ _ _).alloc _)
  have HF : Hid (Blk (((w.alloc (.cells #[.pointer (some ⟨s, 0, none⟩)] 104)).alloc (.cells #[.slice (some ⟨gv, 0, none⟩) ws.length cv] 40)).alloc (.cells #[.int .i64 (-1)] 3)) (w.heap.size + 1 + 1) #[.int .i64 (-1)] 3) := Lib.hid (Blk.new3 _ _ _ _ _)
  have sl := h.out.lt
  go_enter Tryz.func79, Tryz.ntmps79
  go_upto_region 2 with fail
  generalize hWc : ((w.alloc (.cells #[.pointer (some ⟨s, 0, none⟩)] 104)).alloc (.cells #[.slice (some ⟨gv, 0, none⟩) ws.length cv] 40)).alloc (.cells #[.int .i64 (-1)] 3) = Wc at HW HX HD HF ⊢
  clear hWc
  obtain ⟨fd, hfd⟩ : ∃ fd, w.heap.size + 1 + 1 = fd := ⟨_, rfl⟩
  have fge : w.heap.size ≤ fd := by omega
  rw [hfd] at HF ⊢
  clear hfd
  have HS := Lib.hid (h.out.below HW.out)
  have HV := Lib.hid (hv.out.below HW.out)
  have x0 : Wc.cell? ⟨w.heap.size, 0, none⟩ = some (.pointer (some ⟨s, 0, none⟩)) := HX.out.cell 0
  have xl := HX.out.lt
  have sl2 := HS.out.lt
  have fl := HF.out.lt
  have HR : Hid (∀ W1 W2, (Blk W1 s (scC S ((a + t.size : Nat) : Int)) 133 ∧ Blk W1 fd #[.int .i64 j] 3 ∧ w.grownBy W1 (some s)) → Below Wc.heap.size W1 W2 → (Blk W2 s (scC S ((a + t.size : Nat) : Int)) 133 ∧ Blk W2 fd #[.int .i64 j] 3 ∧ w.grownBy W2 (some s))) :=
    Lib.hid fun W1 W2 h1 hb => ⟨h1.1.low hb sl2, h1.2.1.low hb fl, gr_lowB h1.2.2 HW.out.size hb⟩
  have HH : Hid (∀ W, Below Wc.heap.size Wc W → Calls Tryz.prog 116 #[.pointer (some ⟨w.heap.size, 0, none⟩), .pointer (some ⟨fd, 0, none⟩), .pointer (some ⟨w.heap.size + 1, 0, none⟩)] W fun e w' => e = .returned (.tuple #[]) ∧ (Blk w' s (scC S ((a + t.size : Nat) : Int)) 133 ∧ Blk w' fd #[.int .i64 j] 3 ∧ w.grownBy w' (some s)) ∧ Over Wc.heap.size W w') :=
    Lib.hid fun W hW => (word1_c s w.heap.size (w.heap.size + 1) fd S a _ ws j t W (Lib.hid ⟨HS.out.below hW, HX.out.below hW, HD.out.below hW, HF.out.below hW, HV.out.below hW⟩) hg hS2 hws).mono fun e w' hp => ⟨hp.1, ⟨pos_cast hp.2.sc, hp.2.f, hp.2.chg.gr (below_then HW.out HW.out.size hW) fge⟩, hp.2.chg.over (by simp; exact ⟨sl2, fl⟩)⟩
  go_upto_region 3 with (first | (go_at_call 115; with_reducible refine (guard_c s S a 116 #[.pointer (some ⟨w.heap.size, 0, none⟩), .pointer (some ⟨fd, 0, none⟩), .pointer (some ⟨w.heap.size + 1, 0, none⟩)] (fun W => Blk W s (scC S ((a + t.size : Nat) : Int)) 133 ∧ Blk W fd #[.int .i64 j] 3 ∧ w.grownBy W (some s)) _ HS (fun _ _ => rfl) HR HH).mono ?_; rintro e w1 ⟨rfl, hb1, hb2, hb3⟩; have H1 := Lib.hid hb1; have H2 := Lib.hid hb2; have H3 := Lib.hid hb3; clear hb1 hb2 hb3))
  have y0 : w1.cell? ⟨fd, 0, none⟩ = some (.int .i64 j) := H2.out.cell 0
  have yl := H2.out.lt
  go_wp2_with fail
  go_ret
  exact ⟨rfl, H1.out, H3.out⟩
end Go.Proofs.YtdgaflcnigljlaaGreatDoor
/-
  Contracts of package linescan: conditions on a byte. No further condition.
-/
namespace Go.Proofs.YtdgaflcnigljlaaGreatDoor
open Go.RowKit Go.Proofs Go.MapKept Go.Proofs.YtdgaflcnigljlaaGreatDoorW.PrintWords
set_option linter.unusedVariables false
theorem leading_y (c : Int) (w : World) (h1 : 48 < c) (h2 : c ≤ 57) : Calls Tryz.prog 164 #[.int .u8 c] w fun e w' => e = .returned (.bool true) ∧ Below w.heap.size w w' := by
  have HB := Lib.hid (Below.refl w.heap.size w)
  have t1 : decide (48 < c) = true := by simpa using h1
  have t2 : decide (c ≤ 57) = true := by simpa using h2
  go_enter Tryz.func164, Tryz.ntmps164
  go_wp2
  go_ret
  exact ⟨rfl, HB.out⟩
theorem letter_y (c : Int) (w : World) (h1 : 97 ≤ c) (h2 : c ≤ 122) : Calls Tryz.prog 167 #[.int .u8 c] w fun e w' => e = .returned (.bool true) ∧ Below w.heap.size w w' := by
  have HB := Lib.hid (Below.refl w.heap.size w)
  have t1 : decide (97 ≤ c) = true := by simpa using h1
  have t2 : decide (c ≤ 122) = true := by simpa using h2
  go_enter Tryz.func167, Tryz.ntmps167
  go_wp2
  go_ret
  exact ⟨rfl, HB.out⟩
theorem letter_n (c : Int) (w : World) (h1 : c < 97) : Calls Tryz.prog 167 #[.int .u8 c] w fun e w' => e = .returned (.bool false) ∧ Below w.heap.size w w' := by
  have HB := Lib.hid (Below.refl w.heap.size w)
  have t1 : decide (97 ≤ c) = false := by simp; omega
  go_enter Tryz.func167, Tryz.ntmps167
  go_wp2
  go_ret
  exact ⟨rfl, HB.out⟩
theorem digit_n (c : Int) (w : World) (h1 : c < 48) : Calls Tryz.prog 165 #[.int .u8 c] w fun e w' => e = .returned (.bool false) ∧ Below w.heap.size w w' := by
  have HB := Lib.hid (Below.refl w.heap.size w)
  have t1 : decide (48 ≤ c) = false := by simp; omega
  go_enter Tryz.func165, Tryz.ntmps165
  go_wp2
  go_ret
  exact ⟨rfl, HB.out⟩
theorem part_n (c : Int) (w : World) (h1 : c < 48) : Calls Tryz.prog 168 #[.int .u8 c] w fun e w' => e = .returned (.bool false) ∧ Below w.heap.size w w' := by
  have HB := Lib.hid (Below.refl w.heap.size w)
  go_enter Tryz.func168, Tryz.ntmps168
  go_wp2_with (first | (go_at_call 167; with_reducible refine (letter_n c _ (by omega)).mono ?_; rintro e w1 ⟨rfl, hw⟩; replace HB := Lib.hid (below_then HB.out HB.out.size hw); clear hw) | (go_at_call 165; with_reducible refine (digit_n c _ h1).mono ?_; rintro e w1 ⟨rfl, hw⟩; replace HB := Lib.hid (below_then HB.out HB.out.size hw); clear hw))
  go_ret
  exact ⟨rfl, HB.out⟩
theorem is_c (c : Int) (w : World) : Calls Tryz.prog 163 #[.int .u8 c] w fun e w' => e = .returned (.func (.func 204) #[] #[.pointer (some ⟨w.heap.size, 0, none⟩)]) ∧ Blk w' w.heap.size #[.int .u8 c] 5 ∧ Below w.heap.size w w' := by
  have hmf : ∀ (fn : Fn) (first cap : Array Value) (w : World), (Instr.makeFunc fn first cap).run Tryz.prog w = .ok (.func fn first cap) w := fun _ _ _ _ => rfl
  go_enter Tryz.func163, Tryz.ntmps163
  go_wp2
  go_ret
  exact ⟨rfl, Blk.new _ _ _, (Below.refl _ _).alloc (Nat.le_refl _) _⟩
theorem is1_n (c d : Int) (p : Nat) (w : World) (h : Hid (Blk w p #[.int .u8 d] 5)) (hn : c ≠ d) : Calls Tryz.prog 204 #[.int .u8 c, .pointer (some ⟨p, 0, none⟩)] w fun e w' => e = .returned (.bool false) ∧ Below w.heap.size w w' := by
  have HB := Lib.hid (Below.refl w.heap.size w)
  have x0 : w.cell? ⟨p, 0, none⟩ = some (.int .u8 d) := h.out.cell 0
  have t1 : (c == d) = false := by simpa using hn
  go_enter Tryz.func204, Tryz.ntmps204
  go_wp2
  go_ret
  exact ⟨rfl, HB.out⟩
theorem gr_same {w W : World} {g : Nat} {cs : Array Value} {t : TypeId} (h : w.grownBy W (some g)) (h1 : Blk w g cs t) (h2 : Blk W g cs t) : Below w.heap.size w W :=
  ⟨h.os, h.tape, h.output, h.size, fun k hk => by
    by_cases e : k = g
    · subst e; unfold Blk at h1 h2; rw [h1, h2]
    · exact h.block k hk (fun z => e (by cases z; rfl))⟩
/-- A byte that is not wanted: nothing is taken. -/
theorem take_n (s : Nat) (S : ByteArray) (i : Nat) (f : Nat) (caps : Array Value) (w : World) (h : Hid (Blk w s (scC S i) 133)) (hi : i < S.size) (hs : S.size ≤ 1000000) (he : ∀ args W, (callFunc f args).run Tryz.prog W = .ok (.enter f args) W)
    (H : Hid (∀ W, Below w.heap.size w W → Calls Tryz.prog f (#[.int .u8 (bt S i)] ++ caps) W fun e w' => e = .returned (.bool false) ∧ Below W.heap.size W w')) :
    Calls Tryz.prog 161 #[.pointer (some ⟨s, 0, none⟩), .func (.func f) #[] caps] w fun e w' => e = .returned (.bool false) ∧ Below w.heap.size w w' :=
  (take_c s S i f caps false w h hi hs he H).mono fun e w' ⟨h1, h2, h3⟩ => ⟨h1, gr_same h3 h.out (by simpa using h2)⟩
end Go.Proofs.YtdgaflcnigljlaaGreatDoor
/-
  Contract of package linescan: the scan of a number of one digit. No further condition.
-/
namespace Go.Proofs.YtdgaflcnigljlaaGreatDoor
open Go.RowKit Go.Proofs Go.MapKept Go.Proofs.YtdgaflcnigljlaaGreatDoorW.PrintWords
set_option linter.unusedVariables false
/-- One digit, not 0, and no further one. -/
structure DGood (S : ByteArray) (a : Nat) (d : Int) : Prop where
  at_ : bt S (a : Int) = 48 + d
  lo : 1 ≤ d
  hi : d ≤ 9
  next : bt S ((a + 1 : Nat) : Int) < 48
  fit : a + 1 < S.size
structure N1In (W : World) (s xb nb : Nat) (S : ByteArray) (a : Nat) (n : Int) : Prop where
  sc : Blk W s (scC S (a : Int)) 133
  x : Blk W xb #[.pointer (some ⟨s, 0, none⟩)] 104
  n : Blk W nb #[.int .i64 n] 3
theorem N1In.below {W W2 : World} {s xb nb : Nat} {S : ByteArray} {a : Nat} {n : Int} (h : N1In W s xb nb S a n) (hb : Below W.heap.size W W2) : N1In W2 s xb nb S a n := ⟨h.sc.below hb, h.x.below hb, h.n.below hb⟩
theorem N1In.must {W W2 : World} {s xb nb : Nat} {S : ByteArray} {a : Nat} {n : Int} (h : N1In W s xb nb S a n) (hb : Blk W2 s (scC S ((a : Int) + 1)) 133) (hg : W.grownBy W2 (some s)) : N1In W2 s xb nb S (a + 1) n :=
  ⟨by rw [show ((a + 1 : Nat) : Int) = (a : Int) + 1 by omega]; exact hb, h.x.grown hg (fun e => h.sc.ne h.x (by decide) (by simpa using e)), h.n.grown hg (fun e => h.sc.ne h.n (by decide) (by simpa using e))⟩
theorem N1In.put {W : World} {s xb nb : Nat} {S : ByteArray} {a : Nat} {n : Int} (h : N1In W s xb nb S a n) (m : Int) : N1In (W.setCell ⟨nb, 0, none⟩ (.int .i64 m)) s xb nb S a m :=
  ⟨h.sc.far (h.sc.ne h.n (by decide)) _, h.x.far (h.x.ne h.n (by decide)) _, h.n.put 0 _ rfl⟩
theorem N1In.alloc {W : World} {s xb nb : Nat} {S : ByteArray} {a : Nat} {n : Int} (h : N1In W s xb nb S a n) (o : Obj) : N1In (W.alloc o) s xb nb S a n := ⟨h.sc.alloc o, h.x.alloc o, h.n.alloc o⟩
set_option maxRecDepth 20000 in
set_option maxHeartbeats 1000000 in
theorem number1_c (s xb nb : Nat) (S : ByteArray) (a : Nat) (d : Int) (w : World) (h : Hid (N1In w s xb nb S a 0)) (hd : Hid (DGood S a d)) (hS2 : S.size ≤ 1000000) :
    Calls Tryz.prog 162 #[.pointer (some ⟨xb, 0, none⟩), .pointer (some ⟨nb, 0, none⟩)] w fun e w' => e = .returned (.tuple #[]) ∧ N1In w' s xb nb S (a + 1) d ∧ Chg [s, nb] w.heap.size w w' := by
  have la : a < S.size := by have := hd.out.fit; omega
  have hne : bt S (a : Int) ≠ 48 := by have := hd.out; have := this.at_; have := hd.out.lo; omega
  have hne2 : bt S (a : Int) ≠ 45 := by have := hd.out; have := this.at_; have := hd.out.lo; omega
  go_enter Tryz.func162, Tryz.ntmps162
  go_upto_region 1 with fail
  have HC : ∀ V, Below w.heap.size w V → V.cell? ⟨xb, 0, none⟩ = some (.pointer (some ⟨s, 0, none⟩)) := fun V hb => (h.out.x.below hb).cell 0
  have hB : Below w.heap.size w w.drew := (Below.refl _ _).drew
  have x0 := HC _ (Below.refl _ _)
  have HN1 := Lib.hid hne
  have HN2 := Lib.hid hne2
  clear hne hne2
  go_cut [8] (fun v8 wx => v8 = .bool false ∧ Hid (Below w.heap.size w wx))
  case first =>
    go_region_held3 (fun w' => w'.cell? ⟨xb, 0, none⟩ = some (.pointer (some ⟨s, 0, none⟩)))
      (first | (with_reducible exact HC _ hB))
      (first
        | (go_at_call 163; with_reducible refine (is_c _ _).mono ?_; rintro e w1 ⟨rfl, hk, hb1⟩; have HK := Lib.hid hk; replace hB := hB.trans (hb1.mono hB.size); clear hk hb1)
        | (go_at_call 161; with_reducible refine (take_n s S a _ _ _ (Lib.hid (h.out.sc.below hB)) la hS2 (fun _ _ => rfl) (Lib.hid fun W hW => is1_n _ _ _ W (Lib.hid (HK.out.below hW)) HN1.out)).mono ?_; rintro e w1 ⟨rfl, hb1⟩; replace hB := hB.trans (hb1.mono hB.size)))
    all_goals (go_wp2_with fail)
    all_goals go_meet
    all_goals exact ⟨rfl, Lib.hid hB⟩
  case rest =>
    clear hB x0
    obtain ⟨rfl, HW⟩ := hcut
    have hB : Below w.heap.size w wc := HW.out
    have x0 := HC _ hB
    have wl := hB.size
    go_upto_region 2 with fail
    replace hB : Below w.heap.size w wc.drew := HW.out.drew
    go_cut [11] (fun v8 wx => v8 = .bool false ∧ Hid (Below w.heap.size w wx))
    case first =>
      go_region_held3 (fun w' => w'.cell? ⟨xb, 0, none⟩ = some (.pointer (some ⟨s, 0, none⟩)))
        (first | (with_reducible exact HC _ hB))
        (first
          | (go_at_call 163; with_reducible refine (is_c _ _).mono ?_; rintro e w1 ⟨rfl, hk, hb1⟩; have HK := Lib.hid hk; replace hB := hB.trans (hb1.mono hB.size); clear hk hb1)
          | (go_at_call 161; with_reducible refine (take_n s S a _ _ _ (Lib.hid (h.out.sc.below hB)) la hS2 (fun _ _ => rfl) (Lib.hid fun W hW => is1_n _ _ _ W (Lib.hid (HK.out.below hW)) HN2.out)).mono ?_; rintro e w1 ⟨rfl, hb1⟩; replace hB := hB.trans (hb1.mono hB.size)))
      all_goals (go_wp2_with fail)
      all_goals go_meet
      all_goals exact ⟨rfl, Lib.hid hB⟩
    case rest =>
      clear hB x0 HC
      obtain ⟨rfl, HW2⟩ := hcut
      have HI := Lib.hid (h.out.below HW2.out)
      have x0 : wc.cell? ⟨xb, 0, none⟩ = some (.pointer (some ⟨s, 0, none⟩)) := HI.out.x.cell 0
      have x1 : wc.cell? ⟨s, 1, none⟩ = some (.int .i64 a) := HI.out.sc.cell 1
      have xl := HI.out.x.lt
      have sl := HI.out.sc.lt
      have HL : Hid (∀ W, Below wc.heap.size wc W → Calls Tryz.prog 164 (#[.int .u8 (bt S (a : Int))] ++ #[]) W fun e w' => e = .returned (.bool true) ∧ Below W.heap.size W w') :=
        Lib.hid fun W hW => leading_y _ W (by have := hd.out.at_; have := hd.out.lo; omega) (by have := hd.out.at_; have := hd.out.hi; omega)
      have HSC := Lib.hid HI.out.sc
      go_upto_region 6 with (first | (go_at_call 117; with_reducible refine (must_c s S a 164 #[] _ HSC la hS2 (fun _ _ => rfl) HL).mono ?_; rintro e w1 ⟨rfl, hb1, hg1⟩))
      have HM := Lib.hid (HI.out.must hb1 hg1)
      have HG := Lib.hid (((Chg.refl [s, nb] w.heap.size w).below HW2.out).grown hg1 HW2.out.size (.inl (by simp)))
      clear hb1 hg1 x0 x1 HSC HL HI xl sl
      have HL : Hid (∀ W, Below w1.heap.size w1 W → Calls Tryz.prog 165 (#[.int .u8 (bt S ((a + 1 : Nat) : Int))] ++ #[]) W fun e w' => e = .returned (.bool false) ∧ Below W.heap.size W w') :=
        Lib.hid fun W hW => digit_n _ W hd.out.next
      have HSC := Lib.hid HM.out.sc
      have x0 : w1.cell? ⟨xb, 0, none⟩ = some (.pointer (some ⟨s, 0, none⟩)) := HM.out.x.cell 0
      have x1 : w1.cell? ⟨s, 1, none⟩ = some (.int .i64 ((a : Int) + 1)) := HM.out.sc.cell 1
      have xl := HM.out.x.lt
      have sl := HM.out.sc.lt
      have la1 := hd.out.fit
      have e1 : (a : Int) + 1 - a = 1 := by omega
      go_loopg [] 1 (fun g wr => g = 1 ∧ wr = w1)
      case atStart => exact ⟨rfl, rfl⟩
      case round =>
        obtain ⟨rfl, rfl⟩ := hrel
        go_upto_region 7 with (first | (go_at_call 161; with_reducible refine (take_n s S (a + 1) 165 #[] _ HSC la1 hS2 (fun _ _ => rfl) HL).mono ?_; rintro e w2 ⟨rfl, hb2⟩))
        have HM2 := Lib.hid (HM.out.below hb2)
        have HG2 := Lib.hid (HG.out.below (B := w.heap.size) (hb2.mono HG.out.size))
        clear hb2 x0 x1 HSC HL HM HG xl sl e1
        have x0 : w2.cell? ⟨xb, 0, none⟩ = some (.pointer (some ⟨s, 0, none⟩)) := HM2.out.x.cell 0
        have x1 : w2.cell? ⟨s, 1, none⟩ = some (.int .i64 ((a : Int) + 1)) := HM2.out.sc.cell 1
        have x2 : w2.cell? ⟨s, 0, none⟩ = some (.string S) := HM2.out.sc.cell 0
        have xl := HM2.out.x.lt
        have sl := HM2.out.sc.lt
        have hS' : (a : Int) + 1 ≤ S.size := by omega
        have hsl : ∀ wx : World, (Instr.slice 9 (.string S) (some (.int .i64 (a : Int))) (some (.int .i64 ((a : Int) + 1))) none).run Tryz.prog wx = .ok (.string (S.extract a (a + 1))) wx := fun wx => by
          have := run_slice_string (P := Tryz.prog) wx 9 S .i64 .i64 (a : Int) ((a : Int) + 1) Tryz.underlying9 (by omega) (by omega) (by omega)
          have e2 : ((a : Int) + 1).toNat = a + 1 := by omega
          rw [e2] at this; simpa using this
        obtain ⟨T, hT⟩ : ∃ T, S.extract a (a + 1) = T := ⟨_, rfl⟩
        have T1 : T.size = 1 := by rw [← hT]; simp; omega
        have T2 : bt T 0 = 48 + d := by
          rw [← hT, ← hd.out.at_]
          have h1 : (0 : Int).toNat < (S.extract a (a + 1)).size := by simp; omega
          unfold bt
          rw [dif_pos h1, dif_pos (show ((a : Nat) : Int).toNat < S.size by omega)]
          simp only [Int.toNat_natCast, Int.toNat_zero]
          rw [ByteArray.getElem_extract]
          simp
        rw [hT] at hsl
        clear hT
        go_region
        have HM3 : Hid (N1In w2.drew s xb nb S (a + 1) 0) := Lib.hid (HM2.out.below ((Below.refl _ _).drew))
        have HG3 : Hid (Chg [s, nb] w.heap.size w w2.drew) := Lib.hid (HG2.out.below ((Below.refl _ _).drew))
        obtain ⟨k, hk⟩ : ∃ k, w2.heap.size = k := ⟨_, rfl⟩
        have hk' : w2.drew.heap.size = k := hk
        rw [hk]
        have HK := Lib.hid hk'
        have nl : nb < k := by rw [← hk]; exact HM2.out.n.lt
        have wle : w.heap.size ≤ k := by rw [← hk]; exact HG2.out.size
        clear hk hk' HM2 HG2 x0 x1 x2 xl sl hsl
        generalize w2.drew = V0 at *
        have HN0 : ∀ (V : World), V.heap.size = k → (Instr.next (.pointer (some ⟨k, 0, none⟩)) true 0).run Tryz.prog (V.iter T 0) = .ok (.tuple #[.bool true, .int .i64 0, .int .i32 (48 + d)]) (V.iter T 1) := fun V hV => by
          have e := next_c T 0 (by omega) (by have := T2; have := hd.out.hi; simp at *; omega) V 0
          rw [hV] at e
          simpa [T2] using e
        have HN1 : ∀ (V : World), V.heap.size = k → (Instr.next (.pointer (some ⟨k, 0, none⟩)) true 0).run Tryz.prog (V.iter T 1) = .ok (.tuple #[.bool false]) (V.iter T 1) := fun V hV => by
          have e := run_next_end (P := Tryz.prog) V T 1 0 (by omega)
          rw [hV] at e
          exact e
        have d1 := hd.out.lo
        have d2 := hd.out.hi
        go_wp2_with fail
        go_loopg [] 2 (fun g wr => ∃ (i : Nat) (V : World), i ≤ 1 ∧ wr = V.iter T i ∧ V.heap.size = k ∧ Hid (N1In V s xb nb S (a + 1) (if i = 0 then 0 else d)) ∧ Hid (Chg [s, nb] w.heap.size w V) ∧ g = 2 - i)
        case atStart => exact ⟨0, V0, by omega, rfl, HK.out, HM3, HG3, rfl⟩
        case round =>
          clear HM3 HG3 HK
          obtain ⟨i, V, i1, rfl, hV, HV, HGV, hg⟩ := hrel
          have G := Lib.hid hg
          clear hg
          have HVK := Lib.hid hV
          by_cases hi : i = 0
          · subst hi
            have hn0 := HN0 V hV
            have y0 : (V.iter T 1).cell? ⟨nb, 0, none⟩ = some (.int .i64 0) := (HV.out.n.alloc _).cell 0
            have y1 : (V.iter T 1).frozen? ⟨nb, 0, none⟩ = false := (HV.out.n.alloc _).frozen 0
            clear HN0 HN1 hV
            have HV0 : Hid (N1In V s xb nb S (a + 1) 0) := Lib.hid HV.out
            clear HV
            go_wp2_with fail
            go_roundg (gk - 1)
            case measure => have := G.out; omega
            case rel =>
              rw [show 48 + d - 48 = d by omega]
              exact ⟨1, V.setCell ⟨nb, 0, none⟩ (.int .i64 d), by omega, World.setCell_alloc_past _ _ _ _ (by rw [HVK.out]; exact nl), by rw [show (V.setCell ⟨nb, 0, none⟩ (.int .i64 d)).heap.size = V.heap.size by simp [World.setCell]]; exact HVK.out, Lib.hid (HV0.out.put d), Lib.hid (HGV.out.set (by rw [HVK.out]; exact wle) (.inl (by simp))), by have := G.out; omega⟩
          · have hi1 : i = 1 := by omega
            subst hi1
            have hn1 := HN1 V hV
            have y0 : (V.iter T 1).cell? ⟨nb, 0, none⟩ = some (.int .i64 d) := (HV.out.n.alloc _).cell 0
            have y1 : (V.iter T 1).frozen? ⟨nb, 0, none⟩ = false := (HV.out.n.alloc _).frozen 0
            clear HN0 HN1 hV
            have HV0 : Hid (N1In V s xb nb S (a + 1) d) := Lib.hid HV.out
            clear HV
            go_wp2_with fail
            go_end0
            have hgx : Chg [s, nb] w.heap.size w (V.iter T 1) := HGV.out.below (B := w.heap.size) ((Below.refl _ _).alloc (by rw [HVK.out]; exact wle) _)
            exact ⟨rfl, (HV0.out.alloc _).put d, hgx.set hgx.size (.inl (by simp))⟩
end Go.Proofs.YtdgaflcnigljlaaGreatDoor
/-
  Contract of package linescan: Number, at one digit. No further condition.
-/
namespace Go.Proofs.YtdgaflcnigljlaaGreatDoor
open Go.RowKit Go.Proofs Go.MapKept Go.Proofs.YtdgaflcnigljlaaGreatDoorW.PrintWords
set_option linter.unusedVariables false
set_option maxRecDepth 20000 in
set_option maxHeartbeats 1000000 in
theorem number_c (s : Nat) (S : ByteArray) (a : Nat) (d : Int) (w : World) (h : Hid (Blk w s (scC S a) 133)) (hd : Hid (DGood S a d)) (hS2 : S.size ≤ 1000000) :
    Calls Tryz.prog 119 #[.pointer (some ⟨s, 0, none⟩)] w fun e w' => e = .returned (.int .i64 d) ∧ Blk w' s (scC S ((a + 1 : Nat) : Int)) 133 ∧ w.grownBy w' (some s) := by
  have hmf : ∀ (fn : Fn) (first cap : Array Value) (w : World), (Instr.makeFunc fn first cap).run Tryz.prog w = .ok (.func fn first cap) w := fun _ _ _ _ => rfl
  have HW : Hid (Below w.heap.size w ((w.alloc (.cells #[.pointer (some ⟨s, 0, none⟩)] 104)).alloc (.cells #[.int .i64 0] 3))) := Lib.hid (((Below.refl _ _).alloc (Nat.le_refl _) _).alloc (by simp) _)
  have HX : Hid (Blk ((w.alloc (.cells #[.pointer (some ⟨s, 0, none⟩)] 104)).alloc (.cells #[.int .i64 0] 3)) w.heap.size #[.pointer (some ⟨s, 0, none⟩)] 104) := Lib.hid ((Blk.new _ _ _).alloc _)
  have HF : Hid (Blk ((w.alloc (.cells #[.pointer (some ⟨s, 0, none⟩)] 104)).alloc (.cells #[.int .i64 0] 3)) (w.heap.size + 1) #[.int .i64 0] 3) := Lib.hid (Blk.new2 _ _ _ _)
  have sl := h.out.lt
  go_enter Tryz.func119, Tryz.ntmps119
  go_upto_region 2 with fail
  generalize hWc : ((w.alloc (.cells #[.pointer (some ⟨s, 0, none⟩)] 104)).alloc (.cells #[.int .i64 0] 3)) = Wc at HW HX HF ⊢
  clear hWc
  obtain ⟨fd, hfd⟩ : ∃ fd, w.heap.size + 1 = fd := ⟨_, rfl⟩
  have fge : w.heap.size ≤ fd := by omega
  rw [hfd] at HF ⊢
  clear hfd
  have HS := Lib.hid (h.out.below HW.out)
  have x0 : Wc.cell? ⟨w.heap.size, 0, none⟩ = some (.pointer (some ⟨s, 0, none⟩)) := HX.out.cell 0
  have xl := HX.out.lt
  have sl2 := HS.out.lt
  have fl := HF.out.lt
  have HR : Hid (∀ W1 W2, (Blk W1 s (scC S ((a + 1 : Nat) : Int)) 133 ∧ Blk W1 fd #[.int .i64 d] 3 ∧ w.grownBy W1 (some s)) → Below Wc.heap.size W1 W2 → (Blk W2 s (scC S ((a + 1 : Nat) : Int)) 133 ∧ Blk W2 fd #[.int .i64 d] 3 ∧ w.grownBy W2 (some s))) :=
    Lib.hid fun W1 W2 h1 hb => ⟨h1.1.low hb sl2, h1.2.1.low hb fl, gr_lowB h1.2.2 HW.out.size hb⟩
  have HH : Hid (∀ W, Below Wc.heap.size Wc W → Calls Tryz.prog 162 #[.pointer (some ⟨w.heap.size, 0, none⟩), .pointer (some ⟨fd, 0, none⟩)] W fun e w' => e = .returned (.tuple #[]) ∧ (Blk w' s (scC S ((a + 1 : Nat) : Int)) 133 ∧ Blk w' fd #[.int .i64 d] 3 ∧ w.grownBy w' (some s)) ∧ Over Wc.heap.size W w') :=
    Lib.hid fun W hW => (number1_c s w.heap.size fd S a d W (Lib.hid ⟨HS.out.below hW, HX.out.below hW, HF.out.below hW⟩) hd hS2).mono fun e w' hp => ⟨hp.1, ⟨hp.2.1.sc, hp.2.1.n, hp.2.2.gr (below_then HW.out HW.out.size hW) fge⟩, hp.2.2.over (by simp; exact ⟨sl2, fl⟩)⟩
  go_upto_region 3 with (first | (go_at_call 115; with_reducible refine (guard_c s S a 162 #[.pointer (some ⟨w.heap.size, 0, none⟩), .pointer (some ⟨fd, 0, none⟩)] (fun W => Blk W s (scC S ((a + 1 : Nat) : Int)) 133 ∧ Blk W fd #[.int .i64 d] 3 ∧ w.grownBy W (some s)) _ HS (fun _ _ => rfl) HR HH).mono ?_; rintro e w1 ⟨rfl, hb1, hb2, hb3⟩; have H1 := Lib.hid hb1; have H2 := Lib.hid hb2; have H3 := Lib.hid hb3; clear hb1 hb2 hb3))
  have y0 : w1.cell? ⟨fd, 0, none⟩ = some (.int .i64 d) := H2.out.cell 0
  have yl := H2.out.lt
  go_wp2_with fail
  go_ret
  exact ⟨rfl, H1.out, H3.out⟩
end Go.Proofs.YtdgaflcnigljlaaGreatDoor
/-
  Contract of package linescan: the scan of an identifier of one letter. No further condition.
-/
namespace Go.Proofs.YtdgaflcnigljlaaGreatDoor
open Go.RowKit Go.Proofs Go.MapKept Go.Proofs.YtdgaflcnigljlaaGreatDoorW.PrintWords
set_option linter.unusedVariables false
/-- One letter, then a byte below the hyphen. -/
structure LGood (S : ByteArray) (a : Nat) : Prop where
  lo : 97 ≤ bt S (a : Int)
  hi : bt S (a : Int) ≤ 122
  next : bt S ((a + 1 : Nat) : Int) < 45
  fit : a + 1 < S.size
set_option maxRecDepth 20000 in
set_option maxHeartbeats 1000000 in
theorem ident1_c (s xb nb : Nat) (S : ByteArray) (a : Nat) (w : World) (h : Hid (N1In w s xb nb S a 0)) (hd : Hid (LGood S a)) (hS2 : S.size ≤ 1000000) :
    Calls Tryz.prog 166 #[.pointer (some ⟨xb, 0, none⟩), .pointer (some ⟨nb, 0, none⟩)] w fun e w' => e = .returned (.tuple #[]) ∧ N1In w' s xb nb S (a + 1) a ∧ Chg [s, nb] w.heap.size w w' := by
  have la : a < S.size := by have := hd.out.fit; omega
  have la1 := hd.out.fit
  have HI := Lib.hid (h.out.put (a : Int))
  have HG := Lib.hid ((Chg.refl [s, nb] w.heap.size w).set (i := 0) (v := .int .i64 a) (Nat.le_refl _) (.inl (show nb ∈ [s, nb] by simp)))
  have x0 : w.cell? ⟨xb, 0, none⟩ = some (.pointer (some ⟨s, 0, none⟩)) := h.out.x.cell 0
  have x1 : w.cell? ⟨s, 1, none⟩ = some (.int .i64 a) := h.out.sc.cell 1
  have x2 : w.cell? ⟨nb, 0, none⟩ = some (.int .i64 0) := h.out.n.cell 0
  have x3 := h.out.n.frozen 0
  go_enter Tryz.func166, Tryz.ntmps166
  go_upto_region 1 with fail
  generalize w.setCell ⟨nb, 0, none⟩ (.int .i64 a) = wc at HI HG ⊢
  clear x0 x1 x2 x3
  have x0 : wc.cell? ⟨xb, 0, none⟩ = some (.pointer (some ⟨s, 0, none⟩)) := HI.out.x.cell 0
  have xl := HI.out.x.lt
  have HL : Hid (∀ W, Below wc.heap.size wc W → Calls Tryz.prog 167 (#[.int .u8 (bt S (a : Int))] ++ #[]) W fun e w' => e = .returned (.bool true) ∧ Below W.heap.size W w') :=
    Lib.hid fun W hW => letter_y _ W hd.out.lo hd.out.hi
  have HSC := Lib.hid HI.out.sc
  go_upto_region 3 with (first | (go_at_call 117; with_reducible refine (must_c s S a 167 #[] _ HSC la hS2 (fun _ _ => rfl) HL).mono ?_; rintro e w1 ⟨rfl, hb1, hg1⟩))
  have HM := Lib.hid (HI.out.must hb1 hg1)
  have HG2 := Lib.hid (HG.out.grown hg1 HG.out.size (.inl (by simp)))
  clear hb1 hg1 HG HSC HL HI xl x0
  have HL : Hid (∀ W, Below w1.heap.size w1 W → Calls Tryz.prog 168 (#[.int .u8 (bt S ((a + 1 : Nat) : Int))] ++ #[]) W fun e w' => e = .returned (.bool false) ∧ Below W.heap.size W w') :=
    Lib.hid fun W hW => part_n _ W (by have := hd.out.next; omega)
  have HSC := Lib.hid HM.out.sc
  have x0 : w1.cell? ⟨xb, 0, none⟩ = some (.pointer (some ⟨s, 0, none⟩)) := HM.out.x.cell 0
  have x1 : w1.cell? ⟨s, 1, none⟩ = some (.int .i64 ((a : Int) + 1)) := HM.out.sc.cell 1
  have x2 : w1.cell? ⟨nb, 0, none⟩ = some (.int .i64 a) := HM.out.n.cell 0
  have xl := HM.out.x.lt
  have sl := HM.out.sc.lt
  have nl := HM.out.n.lt
  have e1 : (a : Int) + 1 - a = 1 := by omega
  go_wp2_with fail
  go_loopg [] 1 (fun g wr => g = 1 ∧ wr = w1)
  case atStart => exact ⟨rfl, rfl⟩
  case round =>
    obtain ⟨rfl, rfl⟩ := hrel
    go_wp2_with fail
    go_region
    have hB : Below wr.heap.size wr wr.drew := (Below.refl _ _).drew
    generalize wr.drew = w2 at hB ⊢
    have HM2 := Lib.hid (HM.out.below hB)
    have HG3 := Lib.hid (HG2.out.below (B := w.heap.size) (hB.mono HG2.out.size))
    have HL2 : Hid (∀ W, Below w2.heap.size w2 W → Calls Tryz.prog 168 (#[.int .u8 (bt S ((a + 1 : Nat) : Int))] ++ #[]) W fun e w' => e = .returned (.bool false) ∧ Below W.heap.size W w') := Lib.hid fun W hW => HL.out W (below_then hB hB.size hW)
    have HSC2 := Lib.hid HM2.out.sc
    clear x0 x1 x2 xl sl nl HSC HL HM HG2 hB
    have x0 : w2.cell? ⟨xb, 0, none⟩ = some (.pointer (some ⟨s, 0, none⟩)) := HM2.out.x.cell 0
    have xl := HM2.out.x.lt
    go_upto_region 5 with (first | (go_at_call 161; with_reducible refine (take_n s S (a + 1) 168 #[] _ HSC2 la1 hS2 (fun _ _ => rfl) HL2).mono ?_; rintro e w3 ⟨rfl, hb3⟩))
    have HM3 := Lib.hid (HM2.out.below hb3)
    have HG4 := Lib.hid (HG3.out.below (B := w.heap.size) (hb3.mono HG3.out.size))
    clear HL2 HSC2 HM2 HG3 x0 xl hb3
    have HNE : Hid (bt S ((a + 1 : Nat) : Int) ≠ 45) := Lib.hid (by have := hd.out.next; omega)
    have HC : ∀ V, Below w3.heap.size w3 V → V.cell? ⟨xb, 0, none⟩ = some (.pointer (some ⟨s, 0, none⟩)) ∧ V.cell? ⟨s, 1, none⟩ = some (.int .i64 ((a : Int) + 1)) ∧ V.cell? ⟨nb, 0, none⟩ = some (.int .i64 a) := fun V hb => ⟨(HM3.out.x.below hb).cell 0, (HM3.out.sc.below hb).cell 1, (HM3.out.n.below hb).cell 0⟩
    obtain ⟨x0, x1, x2⟩ := HC _ (Below.refl _ _)
    have hB : Below w3.heap.size w3 w3.drew := (Below.refl _ _).drew
    have xl := HM3.out.x.lt
    have sl := HM3.out.sc.lt
    have nl := HM3.out.n.lt
    have hw39 : IntKind.i64.wrap 1 = 1 := by decide
    go_cut [20] (fun v8 wx => v8 = .bool false ∧ Hid (Below w3.heap.size w3 wx))
    case first =>
      go_region_held3 (fun w' => w'.cell? ⟨xb, 0, none⟩ = some (.pointer (some ⟨s, 0, none⟩)) ∧ w'.cell? ⟨s, 1, none⟩ = some (.int .i64 ((a : Int) + 1)) ∧ w'.cell? ⟨nb, 0, none⟩ = some (.int .i64 a))
        (first | (with_reducible exact HC _ hB))
        (first
          | (go_at_call 163; with_reducible refine (is_c _ _).mono ?_; rintro e w4 ⟨rfl, hk, hb1⟩; have HK := Lib.hid hk; replace hB := hB.trans (hb1.mono hB.size); clear hk hb1)
          | (go_at_call 161; with_reducible refine (take_n s S (a + 1) _ _ _ (Lib.hid (HM3.out.sc.below hB)) la1 hS2 (fun _ _ => rfl) (Lib.hid fun W hW => is1_n _ _ _ W (Lib.hid (HK.out.below hW)) HNE.out)).mono ?_; rintro e w4 ⟨rfl, hb1⟩; replace hB := hB.trans (hb1.mono hB.size)))
      all_goals (go_wp2_with fail)
      all_goals go_meet
      all_goals exact ⟨rfl, Lib.hid hB⟩
    case rest =>
      obtain ⟨rfl, HW⟩ := hcut
      go_wp2_with fail
      refine bodyPost_ret (v := .tuple #[]) (results_none rfl _ _ _) rfl ?_
      exact ⟨rfl, HM3.out.below HW.out, HG4.out.below (B := w.heap.size) (HW.out.mono HG4.out.size)⟩
end Go.Proofs.YtdgaflcnigljlaaGreatDoor
/-
  Contract of package linescan: Identifier, at one letter. No further condition.
-/
namespace Go.Proofs.YtdgaflcnigljlaaGreatDoor
open Go.RowKit Go.Proofs Go.MapKept Go.Proofs.YtdgaflcnigljlaaGreatDoorW.PrintWords
set_option linter.unusedVariables false
set_option maxRecDepth 20000 in
set_option maxHeartbeats 1000000 in
theorem identifier_c (s : Nat) (S : ByteArray) (a : Nat) (w : World) (h : Hid (Blk w s (scC S a) 133)) (hd : Hid (LGood S a)) (hS2 : S.size ≤ 1000000) :
    Calls Tryz.prog 121 #[.pointer (some ⟨s, 0, none⟩)] w fun e w' => e = .returned (.string (S.extract a (a + 1))) ∧ Blk w' s (scC S ((a + 1 : Nat) : Int)) 133 ∧ w.grownBy w' (some s) := by
  have hmf : ∀ (fn : Fn) (first cap : Array Value) (w : World), (Instr.makeFunc fn first cap).run Tryz.prog w = .ok (.func fn first cap) w := fun _ _ _ _ => rfl
  have HW : Hid (Below w.heap.size w ((w.alloc (.cells #[.pointer (some ⟨s, 0, none⟩)] 104)).alloc (.cells #[.int .i64 0] 3))) := Lib.hid (((Below.refl _ _).alloc (Nat.le_refl _) _).alloc (by simp) _)
  have HX : Hid (Blk ((w.alloc (.cells #[.pointer (some ⟨s, 0, none⟩)] 104)).alloc (.cells #[.int .i64 0] 3)) w.heap.size #[.pointer (some ⟨s, 0, none⟩)] 104) := Lib.hid ((Blk.new _ _ _).alloc _)
  have HF : Hid (Blk ((w.alloc (.cells #[.pointer (some ⟨s, 0, none⟩)] 104)).alloc (.cells #[.int .i64 0] 3)) (w.heap.size + 1) #[.int .i64 0] 3) := Lib.hid (Blk.new2 _ _ _ _)
  have sl := h.out.lt
  go_enter Tryz.func121, Tryz.ntmps121
  go_upto_region 2 with fail
  generalize hWc : ((w.alloc (.cells #[.pointer (some ⟨s, 0, none⟩)] 104)).alloc (.cells #[.int .i64 0] 3)) = Wc at HW HX HF ⊢
  clear hWc
  obtain ⟨fd, hfd⟩ : ∃ fd, w.heap.size + 1 = fd := ⟨_, rfl⟩
  have fge : w.heap.size ≤ fd := by omega
  rw [hfd] at HF ⊢
  clear hfd
  have HS := Lib.hid (h.out.below HW.out)
  have x0 : Wc.cell? ⟨w.heap.size, 0, none⟩ = some (.pointer (some ⟨s, 0, none⟩)) := HX.out.cell 0
  have xl := HX.out.lt
  have sl2 := HS.out.lt
  have fl := HF.out.lt
  have HR : Hid (∀ W1 W2, (Blk W1 s (scC S ((a + 1 : Nat) : Int)) 133 ∧ Blk W1 fd #[.int .i64 a] 3 ∧ Blk W1 w.heap.size #[.pointer (some ⟨s, 0, none⟩)] 104 ∧ w.grownBy W1 (some s)) → Below Wc.heap.size W1 W2 → (Blk W2 s (scC S ((a + 1 : Nat) : Int)) 133 ∧ Blk W2 fd #[.int .i64 a] 3 ∧ Blk W2 w.heap.size #[.pointer (some ⟨s, 0, none⟩)] 104 ∧ w.grownBy W2 (some s))) :=
    Lib.hid fun W1 W2 h1 hb => ⟨h1.1.low hb sl2, h1.2.1.low hb fl, h1.2.2.1.low hb xl, gr_lowB h1.2.2.2 HW.out.size hb⟩
  have HH : Hid (∀ W, Below Wc.heap.size Wc W → Calls Tryz.prog 166 #[.pointer (some ⟨w.heap.size, 0, none⟩), .pointer (some ⟨fd, 0, none⟩)] W fun e w' => e = .returned (.tuple #[]) ∧ (Blk w' s (scC S ((a + 1 : Nat) : Int)) 133 ∧ Blk w' fd #[.int .i64 a] 3 ∧ Blk w' w.heap.size #[.pointer (some ⟨s, 0, none⟩)] 104 ∧ w.grownBy w' (some s)) ∧ Over Wc.heap.size W w') :=
    Lib.hid fun W hW => (ident1_c s w.heap.size fd S a W (Lib.hid ⟨HS.out.below hW, HX.out.below hW, HF.out.below hW⟩) hd hS2).mono fun e w' hp => ⟨hp.1, ⟨hp.2.1.sc, hp.2.1.n, hp.2.1.x, hp.2.2.gr (below_then HW.out HW.out.size hW) fge⟩, hp.2.2.over (by simp; exact ⟨sl2, fl⟩)⟩
  go_upto_region 3 with (first | (go_at_call 115; with_reducible refine (guard_c s S a 166 #[.pointer (some ⟨w.heap.size, 0, none⟩), .pointer (some ⟨fd, 0, none⟩)] (fun W => Blk W s (scC S ((a + 1 : Nat) : Int)) 133 ∧ Blk W fd #[.int .i64 a] 3 ∧ Blk W w.heap.size #[.pointer (some ⟨s, 0, none⟩)] 104 ∧ w.grownBy W (some s)) _ HS (fun _ _ => rfl) HR HH).mono ?_; rintro e w1 ⟨rfl, hb1, hb2, hb4, hb3⟩; have H4 := Lib.hid hb4; have H1 := Lib.hid hb1; have H2 := Lib.hid hb2; have H3 := Lib.hid hb3; clear hb1 hb2 hb3 hb4))
  have y0 : w1.cell? ⟨fd, 0, none⟩ = some (.int .i64 a) := H2.out.cell 0
  have yl := H2.out.lt
  have y1 : w1.cell? ⟨w.heap.size, 0, none⟩ = some (.pointer (some ⟨s, 0, none⟩)) := H4.out.cell 0
  have y2 : w1.cell? ⟨s, 0, none⟩ = some (.string S) := H1.out.cell 0
  have y3 : w1.cell? ⟨s, 1, none⟩ = some (.int .i64 ((a : Int) + 1)) := H1.out.cell 1
  have yl2 := H4.out.lt
  have yl3 := H1.out.lt
  have hS' : (a : Int) + 1 ≤ S.size := by have := hd.out.fit; omega
  have hsl : ∀ wx : World, (Instr.slice 9 (.string S) (some (.int .i64 (a : Int))) (some (.int .i64 ((a : Int) + 1))) none).run Tryz.prog wx = .ok (.string (S.extract a (a + 1))) wx := fun wx => by
    have := run_slice_string (P := Tryz.prog) wx 9 S .i64 .i64 (a : Int) ((a : Int) + 1) Tryz.underlying9 (by omega) (by omega) (by omega)
    have e2 : ((a : Int) + 1).toNat = a + 1 := by omega
    rw [e2] at this; simpa using this
  go_wp2_with fail
  go_region
  go_wp2_with fail
  refine bodyPost_ret (v := .string (S.extract a (a + 1))) ?_ rfl ⟨rfl, H1.out.drew, ?_⟩
  · simp [results, Tryz.results121]
  · exact gr_lowB H3.out (Nat.le_refl _) ((Below.refl _ _).drew)
end Go.Proofs.YtdgaflcnigljlaaGreatDoor
