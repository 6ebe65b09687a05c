/-
  Contracts and plain facts for the laws on the whole program: the parts below say each what they are. No further condition.
-/
import Derived.Test.YtdgaflcnigljlaaGreatDoorS27
import Derived.Test.YtdgaflcnigljlaaGreatDoorS30
import Derived.Test.YtdgaflcnigljlaaGreatDoorS32
import Derived.Test.YtdgaflcnigljlaaGreatDoorS34
set_option linter.unusedSimpArgs false
/-
  Contract of the laws' common function: it answers true. Where the tables lie in memory as the program text lays them. No further condition.
-/
namespace Go.Proofs.YtdgaflcnigljlaaGreatDoor
open Go.RowKit Go.Proofs Go.MapKept Go.Proofs.YtdgaflcnigljlaaGreatDoorW.PrintWords
set_option linter.unusedVariables false
def C0 : Cat := ⟨5, [⟨⟨#[115]⟩, 3, 8, ⟨1, 1, 1, 0, 0, 0⟩⟩], []⟩
theorem c0Good : C0.Good := by
  refine ⟨by decide, by decide, by decide, by decide, by decide, fun s hs => seaOk_of ?_, fun s hs => ?_, nodup_of (l := C0.ids) (by kernel_rfl)⟩
  · simp only [C0, List.mem_cons, List.not_mem_nil, or_false] at hs
    subst hs
    kernel_rfl
  · cases hs
theorem c0Prop (y : Int) (d : Int) : vPropL C0 y C0.feas.length d = [] := rfl
theorem c0Im (y : Int) (i : Nat) : (vRz C0 y i).im = [] := by
  have h : vLine C0 y i = [vTemp C0 y (vFirst y + i)] := by
    unfold vLine vCands
    rw [c0Prop]
    exact List.mergeSort_singleton _
  show vPol C0 1 ((vLine C0 y i).drop 1) = []
  rw [h]; rfl
theorem asg_nil (free : List Bool) (n : Nat) : ∀ day out, vAsg free day out (List.replicate n []) = some out := by
  induction n with
  | zero => intro day out; rfl
  | succ n ih => intro day out; rw [List.replicate_succ]; simp only [vAsg, vAsg1]; exact ih _ _
theorem c0Moves : vMoves C0 2024 = some [] := by
  unfold vMoves
  have h : vImpL C0 2024 (vDays 2024) = List.replicate (vDays 2024) [] := by
    unfold vImpL
    rw [List.eq_replicate_iff]
    refine ⟨by simp, fun b hb => ?_⟩
    obtain ⟨i, _, rfl⟩ := List.mem_map.1 hb
    exact c0Im _ _
  rw [h]
  exact asg_nil _ _ _ _
theorem c0Days : vDays 2024 = 366 := by decide
theorem c0In {W : World} {b : Nat} {u : Value} (h : Own W b 67 9 u [seaC]) : ∃ A n c, u = .slice A n c ∧ CatIn W C0 A n c none 0 0 := by
  obtain ⟨g, cap, he, _, _, hc, hcell⟩ := h.cell (k := 0) (cs := seaC) rfl
  refine ⟨some ⟨g, 0, none⟩, 1, cap, he, rfl, rfl, hc, Nat.le_refl _, fun k cs hk => ?_, fun k cs hk => by cases hk⟩
  cases k with
  | succ k => simp [C0] at hk
  | zero =>
    simp [C0] at hk
    subst hk
    refine ⟨_, rfl, fun j v hj => ?_⟩
    have hj9 : j < 9 := by
      have := (Array.getElem?_eq_some_iff.1 hj).1
      simpa using this
    have := (hcell j hj9).1
    rw [show (seaC : Array Value)[j]? = some v from hj] at this
    split
    · rename_i h0; subst h0; simpa [Addr.add] using this
    · simpa [Addr.add] using this
@[reducible] def ansV (s : ByteArray) : Array Value := #[.string s, .int .i64 0, .int .i64 0]
@[reducible] def eaS : ByteArray := ⟨#[50, 48, 50, 52, 32, 51, 32, 51, 49]⟩
@[reducible] def anS : ByteArray := ⟨#[50, 48, 50, 52, 32, 52, 32, 56]⟩
@[reducible] def annS : ByteArray := ⟨#[97, 110, 110, 117, 110, 99, 105, 97, 116, 105, 111, 110]⟩
theorem kd1 : kdF 1 = some (.func (.func 73) #[] #[]) := by simp [kdF]
theorem kd6 : kdF 6 = some (.func (.func 78) #[] #[]) := by simp [kdF]
set_option maxRecDepth 20000 in
theorem askE_c (w : World) (ht : Hid (Tabs w)) (hp : Hid (PowIn w)) : Calls Tryz.prog 26 #[.agg #[.int .i64 1, .int .i64 2, .int .i64 1, .int .i64 2024, .int .i64 0, .int .i64 0, .int .i64 0, .string ⟨#[]⟩]] w fun e w' => e = .returned (.agg (ansV eaS)) ∧ Below w.heap.size w w' :=
  ask_c 1 2 1 2024 ⟨#[]⟩ eaS 73 w kd1 (Lib.hid fun W hW => qpas_c W (Lib.hid (ht.out.below hW)) (Lib.hid (hp.out.below hW))) (fun _ _ => rfl)
set_option maxRecDepth 20000 in
theorem askW_c (w : World) (ht : Hid (Tabs w)) (hp : Hid (PowIn w)) : Calls Tryz.prog 26 #[.agg #[.int .i64 6, .int .i64 0, .int .i64 0, .int .i64 2024, .int .i64 0, .int .i64 0, .int .i64 0, .string annS]] w fun e w' => e = .returned (.agg (ansV anS)) ∧ Below w.heap.size w w' :=
  ask_c 6 0 0 2024 annS anS 78 w kd6 (Lib.hid fun W hW => qwhere_c bL 98 W (Lib.hid (ht.out.below hW)) (Lib.hid (hp.out.below hW)) (Lib.hid bi24)) (fun _ _ => rfl)
theorem build0_c (A : Option Addr) (n c : Nat) (w : World) (ht : Hid (Tabs w)) (hI : Hid (CatIn w C0 A n c none 0 0)) :
    Calls Tryz.prog 10 #[.agg #[.int .i64 5, .slice A n c, .slice none 0 0], .int .i64 2024] w fun e w' => (∃ Ae ce, e = .returned (.tuple #[.agg #[.int .i64 2024, .slice Ae 366 ce], .int .i64 0])) ∧ Below w.heap.size w w' := by
  refine (build_c C0 A n c none 0 0 2024 w ht hI (Lib.hid c0Good) (by decide) (by decide)).mono fun e w' hp => ⟨?_, hp.2⟩
  rcases hp.1 with ⟨h1, _⟩ | ⟨l, en, us, h1, h2, h3⟩
  · rw [c0Moves] at h1; cases h1
  · obtain ⟨A', c', he, _⟩ := h3.out.form
    rw [enRows_len, h3.len, c0Days] at he
    exact ⟨A', c', by rw [h2, he]⟩
set_option maxRecDepth 20000 in
set_option maxHeartbeats 1000000 in
theorem awake_c (w : World) (ht : Hid (Tabs w)) (hp : Hid (PowIn w)) : Calls Tryz.prog 7 #[] w fun e w' => e = .returned (.bool true) ∧ Below w.heap.size w w' := by
  have HB := Lib.hid (Below.refl w.heap.size w)
  have q1 : ∀ w : World, (binOp .eql 69 (.agg (ansV eaS)) (.agg (ansV eaS))).run Tryz.prog w = .ok (.bool true) w := fun _ => by kernel_rfl
  have q2 : ∀ w : World, (binOp .eql 69 (.agg (ansV anS)) (.agg (ansV anS))).run Tryz.prog w = .ok (.bool true) w := fun _ => by kernel_rfl
  go_enter Tryz.func7, Tryz.ntmps7
  go_upto_region 2 with (first | (go_at_call 26; with_reducible refine (askE_c _ ht hp).mono ?_; rintro e w1 ⟨rfl, hb1⟩; have HB1 := Lib.hid (Below.alloc hb1 hb1.size (.cells (ansV eaS) 69)); have H1 := Lib.hid (Blk.new w1 (ansV eaS) 69); clear hb1))
  obtain ⟨g1, e1⟩ : ∃ g, w1.heap.size = g := ⟨_, rfl⟩
  rw [e1] at H1 ⊢
  clear e1 HB
  generalize w1.alloc (.cells (ansV eaS) 69) = W1 at *
  go_upto_region 3 with (first | (go_at_call 26; with_reducible refine (askW_c _ (Lib.hid (ht.out.below HB1.out)) (Lib.hid (hp.out.below HB1.out))).mono ?_; rintro e w2 ⟨rfl, hb2⟩; have HB2 := Lib.hid (Below.alloc (below_then HB1.out HB1.out.size hb2) (below_then HB1.out HB1.out.size hb2).size (.cells (ansV anS) 69)); have H1b := Lib.hid (Blk.alloc (Blk.below H1.out hb2) (.cells (ansV anS) 69)); have H2 := Lib.hid (Blk.new w2 (ansV anS) 69); clear hb2))
  obtain ⟨g2, e2⟩ : ∃ g, w2.heap.size = g := ⟨_, rfl⟩
  rw [e2] at H2 ⊢
  clear e2 HB1 H1
  generalize w2.alloc (.cells (ansV anS) 69) = W2 at *
  go_upto_region 4 with (first | (go_at_call 27; with_reducible refine (parse_c _).mono ?_; rintro e w3 ⟨u, rfl, ho, hb3⟩; obtain ⟨ua, un, uc, rfl, hI⟩ := c0In ho; have HI3 := Lib.hid (CatIn.below hI ((Below.refl _ _).alloc (Nat.le_refl _) (.cells #[.int .i64 5, .slice ua un uc, .slice none 0 0] 25))); have HB3 := Lib.hid (Below.alloc (below_then HB2.out HB2.out.size hb3) (below_then HB2.out HB2.out.size hb3).size (.cells #[.int .i64 5, .slice ua un uc, .slice none 0 0] 25)); have H1c := Lib.hid (Blk.alloc (Blk.below H1b.out hb3) (.cells #[.int .i64 5, .slice ua un uc, .slice none 0 0] 25)); have H2b := Lib.hid (Blk.alloc (Blk.below H2.out hb3) (.cells #[.int .i64 5, .slice ua un uc, .slice none 0 0] 25)); have H3 := Lib.hid (Blk.new w3 #[.int .i64 5, .slice ua un uc, .slice none 0 0] 25); clear hb3 ho hI))
  obtain ⟨g3, e3⟩ : ∃ g, w3.heap.size = g := ⟨_, rfl⟩
  rw [e3] at H3 ⊢
  clear e3 HB2 H1b H2
  generalize w3.alloc (.cells #[.int .i64 5, .slice ua un uc, .slice none 0 0] 25) = W3 at *
  obtain ⟨⟨c0, c1, c2⟩, _⟩ := H3.out.c3
  have cl := H3.out.lt
  go_upto_region 5 with (first | (go_at_call 10; with_reducible refine (build0_c ua un uc _ (Lib.hid (ht.out.below HB3.out)) HI3).mono ?_; rintro e w4 ⟨⟨Ae, ce, rfl⟩, hb4⟩; have HB4 := Lib.hid (Below.alloc (below_then HB3.out HB3.out.size hb4) (below_then HB3.out HB3.out.size hb4).size (.cells #[.int .i64 2024, .slice Ae 366 ce] 31)); have H1d := Lib.hid (Blk.alloc (Blk.below H1c.out hb4) (.cells #[.int .i64 2024, .slice Ae 366 ce] 31)); have H2c := Lib.hid (Blk.alloc (Blk.below H2b.out hb4) (.cells #[.int .i64 2024, .slice Ae 366 ce] 31)); have H4 := Lib.hid (Blk.new w4 #[.int .i64 2024, .slice Ae 366 ce] 31); clear hb4))
  obtain ⟨g4, e4⟩ : ∃ g, w4.heap.size = g := ⟨_, rfl⟩
  rw [e4] at H4 ⊢
  clear e4 HB3 H1c H2b H3 c0 c1 c2 cl
  generalize w4.alloc (.cells #[.int .i64 2024, .slice Ae 366 ce] 31) = W4 at *
  obtain ⟨⟨a0, a1, a2⟩, _⟩ := H1d.out.c3
  obtain ⟨⟨b0, b1, b2⟩, _⟩ := H2c.out.c3
  obtain ⟨⟨d0, d1⟩, _⟩ := H4.out.c2
  have al := H1d.out.lt
  have bl := H2c.out.lt
  have dl := H4.out.lt
  go_wp2_with ((go_at_call 28; with_reducible refine (names_c _).mono ?_; rintro e w5 ⟨A5, c5, rfl, hb5⟩; have HB5 := Lib.hid (below_then HB4.out HB4.out.size hb5); clear hb5))
  go_ret
  exact ⟨rfl, HB5.out⟩
end Go.Proofs.YtdgaflcnigljlaaGreatDoor
