/-
  Contracts and plain facts for the laws on the whole program: the parts below say each what they are. No further condition.
-/
import Derived.Test.YtdgaflcnigljlaaGreatDoorS27
import Derived.Defers
import Derived.Recover
import Derived.Deep.RegionHeld3
set_option linter.unusedSimpArgs false
/-
  Contracts of package query: Ask, where the kind's function answers. No further condition.
-/
namespace Go.Proofs.YtdgaflcnigljlaaGreatDoor
open Go.RowKit Go.Proofs Go.MapKept Go.Proofs.YtdgaflcnigljlaaGreatDoorW.PrintWords
set_option linter.unusedVariables false
set_option maxRecDepth 20000 in
theorem ask1_idle (p : Addr) (w : World) : CallsD Tryz.prog 49 #[.pointer (some p)] .returning w fun e u' w' => e = .returned (.tuple #[]) ∧ u' = .returning ∧ w' = w := by
  refine callsD_of_wpS Tryz.func49 rfl fun c₀ cs hu => ?_
  have hne : ∀ W : World, (binOp .neq 20 .nilIface .nilIface).run Tryz.prog W = .ok (.bool false) W := fun _ => rfl
  apply wpS_seq
  apply wpS_region
  simp [wpOpsS, go_sem, recoverD, hu, Tryz.ntmps49, Exit.thenS]
  apply wpS_seq
  apply wpS_region
  simp [wpOpsS, go_sem, hne, Exit.thenS]
  refine wpS_cond (t := false) (by simp [Act.eval, Array.replicate]) ?_
  simp only [Bool.false_eq_true, if_false]
  refine wpS_of_wp (wp_skip ?_)
  cases c₀
  simp_all [bodyPostS, results, Tryz.results49]
def kdF (j : Int) : Option Value := if j = 6 then some (.func (.func 78) #[] #[]) else if j = 5 then some (.func (.func 77) #[] #[]) else if j = 4 then some (.func (.func 76) #[] #[]) else if j = 3 then some (.func (.func 75) #[] #[]) else if j = 2 then some (.func (.func 74) #[] #[]) else if j = 1 then some (.func (.func 73) #[] #[]) else none
set_option maxHeartbeats 400000 in
theorem kinds_c (w : World) : Calls Tryz.prog 50 #[] w fun e w' => e = .returned (.map (some w.heap.size)) ∧ MapIs (fun a : Int => Value.int .i64 a) w' w.heap.size kdF ∧ Below w.heap.size w w' := by
  have hmm := @run_makeMap Tryz.prog
  have HB := Lib.hid ((Below.refl w.heap.size w).alloc (Nat.le_refl _) (.map #[] 0))
  have HM := Lib.hid (MapIs.made (inj := fun a : Int => Value.int .i64 a) w)
  go_enter Tryz.func50, Tryz.ntmps50
  go_wp2_with (first | (with_reducible refine wpl_insert 101 rfl rfl KI Tryz.underlying101 rfl HM.out _ _ rfl rfl ?_; intro w1 hm hg1 hs1; replace HM := Lib.hid hm; replace HB := Lib.hid (HB.out.grown hg1 HB.out.size (fun k e => by cases e; exact Nat.le_refl _)); clear hm hg1 hs1))
  go_ret
  exact ⟨rfl, HM.out, HB.out⟩
theorem znf3 (w : World) : (zeroValue 99).run Tryz.prog w = .ok .nilFunc w := by kernel_rfl
theorem kd_look {W0 w1 : World} {k : Int} {f : Nat} (hk : kdF k = some (.func (.func f) #[] #[])) (hm : MapIs (fun a : Int => Value.int .i64 a) w1 W0.drew.heap.size kdF) : (Instr.lookup 101 (.map (some W0.heap.size)) (.int .i64 k) true).run Tryz.prog w1 = .ok (.tuple #[.func (.func f) #[] #[], .bool true]) w1 := by
  have := hm.look (P := Tryz.prog) KI Tryz.underlying101 k znf3 true
  rw [hk] at this
  exact this
structure AkBox (w W : World) (q : Array Value) : Prop where
  bel : Below w.heap.size w W
  box : Blk W w.heap.size q 72
  res : Blk W (w.heap.size + 1) #[.string ⟨#[]⟩, .int .i64 0, .int .i64 0] 69
theorem AkBox.below {w W W2 : World} {q : Array Value} (h : AkBox w W q) (hb : Below W.heap.size W W2) : AkBox w W2 q := ⟨below_then h.bel h.bel.size hb, h.box.below hb, h.res.below hb⟩
set_option maxRecDepth 20000 in
set_option maxHeartbeats 1000000 in
theorem ask_c (k c m y : Int) (t s : ByteArray) (f : Nat) (w : World) (hk : kdF k = some (.func (.func f) #[] #[])) (hf : Hid (∀ W, Below w.heap.size w W → Calls Tryz.prog f #[.agg #[.int .i64 k, .int .i64 c, .int .i64 m, .int .i64 y, .int .i64 0, .int .i64 0, .int .i64 0, .string t]] W fun e w' => e = .returned (.string s) ∧ Below W.heap.size W w')) (he : ∀ args W, (callFunc f args).run Tryz.prog W = .ok (.enter f args) W) :
    Calls Tryz.prog 26 #[.agg #[.int .i64 k, .int .i64 c, .int .i64 m, .int .i64 y, .int .i64 0, .int .i64 0, .int .i64 0, .string t]] w fun e w' => e = .returned (.agg #[.string s, .int .i64 0, .int .i64 0]) ∧ Below w.heap.size w w' := by
  have hmf : ∀ (fn : Fn) (first cap : Array Value) (w : World), (Instr.makeFunc fn first cap).run Tryz.prog w = .ok (.func fn first cap) w := fun _ _ _ _ => rfl
  have HB : Hid (AkBox w ((w.alloc (.cells #[.int .i64 k, .int .i64 c, .int .i64 m, .int .i64 y, .int .i64 0, .int .i64 0, .int .i64 0, .string t] 72)).alloc (.cells #[.string ⟨#[]⟩, .int .i64 0, .int .i64 0] 69)) #[.int .i64 k, .int .i64 c, .int .i64 m, .int .i64 y, .int .i64 0, .int .i64 0, .int .i64 0, .string t]) := Lib.hid ⟨((Below.refl _ _).alloc (Nat.le_refl _) _).alloc (by simp) _, (Blk.new _ _ _).alloc _, Blk.new2 _ _ _ _⟩
  go_enter_defers Tryz.func26, Tryz.ntmps26
  go_upto_region 2 with fail
  generalize ((w.alloc (.cells #[.int .i64 k, .int .i64 c, .int .i64 m, .int .i64 y, .int .i64 0, .int .i64 0, .int .i64 0, .string t] 72)).alloc (.cells #[.string ⟨#[]⟩, .int .i64 0, .int .i64 0] 69)) = W0 at *
  have hB : Below W0.heap.size W0 W0.drew := (Below.refl _ _).drew
  have HC : ∀ V, Below W0.heap.size W0 V → V.cell? ⟨w.heap.size, 0, none⟩ = some (.int .i64 k) := fun V h => (HB.out.box.below h).cell 0
  have x0 := HC _ (Below.refl _ _)
  go_region_held3 (fun w' => w'.cell? ⟨w.heap.size, 0, none⟩ = some (.int .i64 k))
    (first | (with_reducible exact HC _ hB))
    (first
      | (go_at_call 50; with_reducible refine (kinds_c _).mono ?_; rintro e w1 ⟨rfl, hm, hb1⟩; have hlk := kd_look hk hm; replace hB := hB.trans (hb1.mono hB.size)))
  have HK := Lib.hid (HB.out.below hB)
  clear hB HC x0 hlk hm
  have x0 : w1.cell? ⟨w.heap.size, 0, none⟩ = some (.int .i64 k) := HK.out.box.cell 0
  have x1 : w1.cell? ⟨w.heap.size, 1, none⟩ = some (.int .i64 c) := HK.out.box.cell 1
  have x2 : w1.cell? ⟨w.heap.size, 2, none⟩ = some (.int .i64 m) := HK.out.box.cell 2
  have x3 : w1.cell? ⟨w.heap.size, 3, none⟩ = some (.int .i64 y) := HK.out.box.cell 3
  have x4 : w1.cell? ⟨w.heap.size, 4, none⟩ = some (.int .i64 0) := HK.out.box.cell 4
  have x5 : w1.cell? ⟨w.heap.size, 5, none⟩ = some (.int .i64 0) := HK.out.box.cell 5
  have x6 : w1.cell? ⟨w.heap.size, 6, none⟩ = some (.int .i64 0) := HK.out.box.cell 6
  have x7 : w1.cell? ⟨w.heap.size, 7, none⟩ = some (.string t) := HK.out.box.cell 7
  go_wp2_with fail
  refine (hf.out _ HK.out.bel).mono ?_
  rintro e w2 ⟨rfl, hw⟩
  have HK2 := Lib.hid (HK.out.below hw)
  clear x0 x1 x2 x3 x4 x5 x6 x7 hw
  have z0 : w2.cell? ⟨w.heap.size + 1, 0, none⟩ = some (.string ⟨#[]⟩) := HK2.out.res.cell 0
  have z1 : w2.cell? ⟨w.heap.size + 1, 1, none⟩ = some (.int .i64 0) := HK2.out.res.cell 1
  have z2 : w2.cell? ⟨w.heap.size + 1, 2, none⟩ = some (.int .i64 0) := HK2.out.res.cell 2
  have f0 := HK2.out.res.frozen 0
  have f1 := HK2.out.res.frozen 1
  have f2 := HK2.out.res.frozen 2
  go_wp2_with fail
  refine leaves_cons (f := 49) (args := #[.pointer (some ⟨w.heap.size + 1, 0, none⟩)]) (by simp) (by simp [go_sem]) ?_
  refine (ask1_idle ⟨w.heap.size + 1, 0, none⟩ _).mono ?_
  rintro e u' w'' ⟨rfl, rfl, rfl⟩
  exact ⟨_, results_cell_row rfl _ _ (w.heap.size + 1) 69 #[.string s, .int .i64 0, .int .i64 0] (0, 0) _ rfl (((HK2.out.res.put 0 _ rfl).put 1 _ rfl).put 2 _ rfl) Tryz.underlying69 rfl (by kernel_rfl), rfl, ((HK2.out.bel.setCell (Nat.le_succ _) _).setCell (Nat.le_succ _) _).setCell (Nat.le_succ _) _⟩
end Go.Proofs.YtdgaflcnigljlaaGreatDoor
