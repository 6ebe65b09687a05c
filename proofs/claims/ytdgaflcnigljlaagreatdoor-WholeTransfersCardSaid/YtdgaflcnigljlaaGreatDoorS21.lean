/-
  Contracts and plain facts for the laws on the whole program: the parts below say each what they are. No further condition.
-/
import Derived.Test.YtdgaflcnigljlaaGreatDoorS20
import Derived.Scope
set_option linter.unusedSimpArgs false
/-
  Contract of package transfer: every impeded feast moved to the first free day behind its own. At rows of days that the call is handed. No further condition.
-/
namespace Go.Proofs.YtdgaflcnigljlaaGreatDoor
open Go.RowKit Go.Proofs Go.MapKept Go.Proofs.YtdgaflcnigljlaaGreatDoorW.PrintWords
set_option linter.unusedVariables false
structure Mv where
  feast : Int
  src : Int
  dst : Int
def vTaken (out : List Mv) (t : Int) : Bool := out.any fun m => decide (m.dst = t)
theorem vTaken_snoc (out : List Mv) (m : Mv) (t : Int) : vTaken (out ++ [m]) t = (vTaken out t || decide (m.dst = t)) := by
  unfold vTaken; simp
/-- The first free day from d on, of k days. -/
def vNext (free : List Bool) (out : List Mv) : Nat → Nat → Option Nat
  | 0, _ => none
  | k + 1, d => if free[d]? = some true ∧ vTaken out d = false then some d else vNext free out k (d + 1)
def vAsg1 (free : List Bool) (day : Nat) : List Mv → List Int → Option (List Mv)
  | out, [] => some out
  | out, f :: fs => match vNext free out (free.length - (day + 1)) (day + 1) with
    | none => none
    | some t => vAsg1 free day (out ++ [⟨f, day, t⟩]) fs
def vAsg (free : List Bool) : Nat → List Mv → List (List Int) → Option (List Mv)
  | _, out, [] => some out
  | day, out, l :: ls => match vAsg1 free day out l with
    | none => none
    | some o => vAsg free (day + 1) o ls
theorem vNext_some {free : List Bool} {out : List Mv} {k d t : Nat} (h : vNext free out k d = some t) : d ≤ t ∧ t < d + k ∧ free[t]? = some true ∧ vTaken out t = false ∧ ∀ u, d ≤ u → u < t → ¬ (free[u]? = some true ∧ vTaken out u = false) := by
  induction k generalizing d with
  | zero => cases h
  | succ k ih =>
    simp only [vNext] at h
    by_cases hc : free[d]? = some true ∧ vTaken out d = false
    · rw [if_pos hc] at h; cases h; exact ⟨Nat.le_refl _, by omega, hc.1, hc.2, fun u h1 h2 => by omega⟩
    · rw [if_neg hc] at h
      obtain ⟨a, b, c, e, f⟩ := ih h
      refine ⟨by omega, by omega, c, e, fun u h1 h2 => ?_⟩
      by_cases hu : u = d
      · rw [hu]; exact hc
      · exact f u (by omega) h2
theorem vNext_none {free : List Bool} {out : List Mv} {k d : Nat} (h : vNext free out k d = none) : ∀ u, d ≤ u → u < d + k → ¬ (free[u]? = some true ∧ vTaken out u = false) := by
  induction k generalizing d with
  | zero => intro u h1 h2; omega
  | succ k ih =>
    simp only [vNext] at h
    by_cases hc : free[d]? = some true ∧ vTaken out d = false
    · rw [if_pos hc] at h; cases h
    · rw [if_neg hc] at h
      intro u h1 h2
      by_cases hu : u = d
      · rw [hu]; exact hc
      · exact ih h u (by omega) (by omega)
/-- What is searched from the first day on is what is searched from a later one, where those between are not free. -/
theorem vNext_skip {free : List Bool} {out : List Mv} {k d j : Nat} (hj : d + j ≤ d + k) (h : ∀ u, d ≤ u → u < d + j → ¬ (free[u]? = some true ∧ vTaken out u = false)) : vNext free out k d = vNext free out (k - j) (d + j) := by
  induction j generalizing k d with
  | zero => rfl
  | succ j ih =>
    cases k with
    | zero => omega
    | succ k =>
      rw [show vNext free out (k + 1) d = if free[d]? = some true ∧ vTaken out d = false then some d else vNext free out k (d + 1) from rfl, if_neg (h d (Nat.le_refl _) (by omega)), ih (by omega) (fun u h1 h2 => h u (by omega) (by omega))]
      rw [show k + 1 - (j + 1) = k - j by omega, show d + 1 + j = d + (j + 1) by omega]

theorem vAsg1_append (free : List Bool) (day : Nat) (l l2 : List Int) (out : List Mv) : vAsg1 free day out (l ++ l2) = (vAsg1 free day out l).bind fun o => vAsg1 free day o l2 := by
  induction l generalizing out with
  | nil => rfl
  | cons a l ih =>
    simp only [List.cons_append, vAsg1]
    cases vNext free out (free.length - (day + 1)) (day + 1) with
    | none => rfl
    | some t => exact ih _
theorem vAsg_append (free : List Bool) (day : Nat) (L L2 : List (List Int)) (out : List Mv) : vAsg free day out (L ++ L2) = (vAsg free day out L).bind fun o => vAsg free (day + L.length) o L2 := by
  induction L generalizing out day with
  | nil => simp [vAsg]
  | cons a L ih =>
    simp only [List.cons_append, vAsg]
    cases vAsg1 free day out a with
    | none => rfl
    | some o => simp only; rw [ih]; simp only [List.length_cons]; rw [show day + 1 + L.length = day + (L.length + 1) by omega]
theorem vAsg1_len {free : List Bool} {day : Nat} {l : List Int} {out o : List Mv} (h : vAsg1 free day out l = some o) : o.length = out.length + l.length := by
  induction l generalizing out with
  | nil => cases h; rfl
  | cons a l ih =>
    simp only [vAsg1] at h
    cases e : vNext free out (free.length - (day + 1)) (day + 1) with
    | none => rw [e] at h; cases h
    | some t => rw [e] at h; have := ih h; simp at this ⊢; omega
theorem vAsg_len {free : List Bool} {L : List (List Int)} {day : Nat} {out o : List Mv} {b : Nat} (h : vAsg free day out L = some o) (hb : ∀ l ∈ L, l.length ≤ b) : o.length ≤ out.length + L.length * b := by
  induction L generalizing out day with
  | nil => cases h; simp
  | cons a L ih =>
    simp only [vAsg] at h
    cases e : vAsg1 free day out a with
    | none => rw [e] at h; cases h
    | some t =>
      rw [e] at h
      have h1 := ih h (fun l hl => hb l (.tail _ hl))
      have h2 := vAsg1_len e
      have h3 := hb a (.head _)
      rw [List.length_cons, Nat.succ_mul]; omega
theorem nx_some {free : List Bool} {out : List Mv} {k d n : Nat} (h : ∀ u, k + 1 ≤ u → u < d → ¬ (free[u]? = some true ∧ vTaken out u = false)) (h1 : k + 1 ≤ d) (h2 : d < n) (h3 : free[d]? = some true) (h4 : vTaken out d = false) : vNext free out (n - (k + 1)) (k + 1) = some d := by
  obtain ⟨j, rfl⟩ : ∃ j, d = k + 1 + j := ⟨d - (k + 1), by omega⟩
  rw [vNext_skip (j := j) (by omega) h]
  obtain ⟨q, hq⟩ : ∃ q, n - (k + 1) - j = q + 1 := ⟨n - (k + 1) - j - 1, by omega⟩
  rw [hq]
  simp only [vNext]
  rw [if_pos ⟨h3, h4⟩]
theorem nx_none {free : List Bool} {out : List Mv} {k n : Nat} (h : ∀ u, k + 1 ≤ u → u < n → ¬ (free[u]? = some true ∧ vTaken out u = false)) : vNext free out (n - (k + 1)) (k + 1) = none := by
  cases e : vNext free out (n - (k + 1)) (k + 1) with
  | none => rfl
  | some t =>
    obtain ⟨a, b, c, d, _⟩ := vNext_some e
    exact absurd ⟨c, d⟩ (h t a (by omega))
theorem take_at {α : Type} {l : List α} {j : Nat} {f : α} (h : l[j]? = some f) : l.take (j + 1) = l.take j ++ [f] := by
  rw [List.take_add_one, h]; rfl
theorem asg_next {free : List Bool} {imp : List (List Int)} {k j d : Nat} {l : List Int} {f : Int} {out : List Mv} (h : (vAsg free 0 [] (imp.take k)).bind (fun o => vAsg1 free k o (l.take j)) = some out) (hf : l[j]? = some f) (hn : vNext free out (free.length - (k + 1)) (k + 1) = some d) :
    (vAsg free 0 [] (imp.take k)).bind (fun o => vAsg1 free k o (l.take (j + 1))) = some (out ++ [⟨f, k, d⟩]) := by
  obtain ⟨o, h1, h2⟩ := Option.bind_eq_some_iff.1 h
  rw [h1, Option.bind_some, take_at hf, vAsg1_append, h2, Option.bind_some]
  simp only [vAsg1, hn]
theorem asg_fail {free : List Bool} {imp : List (List Int)} {k j : Nat} {l : List Int} {f : Int} {out : List Mv} (h : (vAsg free 0 [] (imp.take k)).bind (fun o => vAsg1 free k o (l.take j)) = some out) (hk : imp[k]? = some l) (hf : l[j]? = some f) (hn : vNext free out (free.length - (k + 1)) (k + 1) = none) :
    vAsg free 0 [] imp = none := by
  obtain ⟨o, h1, h2⟩ := Option.bind_eq_some_iff.1 h
  have e1 : imp = imp.take k ++ (l :: imp.drop (k + 1)) := by
    have := List.getElem?_eq_some_iff.1 hk
    rw [← this.2, List.getElem_cons_drop, List.take_append_drop]
  have e2 : l = l.take j ++ (f :: l.drop (j + 1)) := by
    have := List.getElem?_eq_some_iff.1 hf
    rw [← this.2, List.getElem_cons_drop, List.take_append_drop]
  have hk' : (imp.take k).length = k := by rw [List.length_take]; have := (List.getElem?_eq_some_iff.1 hk).1; omega
  have e3 : vAsg1 free k o l = none := by
    rw [e2, vAsg1_append, h2, Option.bind_some]
    simp only [vAsg1, hn]
  rw [e1, vAsg_append, h1, Option.bind_some, hk', Nat.zero_add]
  simp only [vAsg, e3]
theorem asg_round {free : List Bool} {imp : List (List Int)} {k : Nat} {l : List Int} {out : List Mv} (h : (vAsg free 0 [] (imp.take k)).bind (fun o => vAsg1 free k o l) = some out) (hk : imp[k]? = some l) : vAsg free 0 [] (imp.take (k + 1)) = some out := by
  obtain ⟨o, h1, h2⟩ := Option.bind_eq_some_iff.1 h
  have hk' : (imp.take k).length = k := by rw [List.length_take]; have := (List.getElem?_eq_some_iff.1 hk).1; omega
  rw [take_at hk, vAsg_append, h1, Option.bind_some, hk', Nat.zero_add]
  simp only [vAsg, h2]
theorem asg_small {free : List Bool} {imp : List (List Int)} {k j : Nat} {l : List Int} {out : List Mv} (h : (vAsg free 0 [] (imp.take k)).bind (fun o => vAsg1 free k o (l.take j)) = some out) (hL : ∀ l ∈ imp, l.length ≤ 1000) (hn : imp.length ≤ 1000) (hl : l.length ≤ 1000) : out.length ≤ 1001000 := by
  obtain ⟨o, h1, h2⟩ := Option.bind_eq_some_iff.1 h
  have a := vAsg_len h1 (b := 1000) (fun x hx => hL x (List.mem_of_mem_take hx))
  have b := vAsg1_len h2
  rw [List.length_take] at a b
  simp only [List.length_nil] at a
  have : min k imp.length * 1000 ≤ 1000 * 1000 := Nat.mul_le_mul_right _ (by omega)
  omega
@[reducible] def Mv.row (m : Mv) : Array Value := #[.int .i64 m.feast, .int .i64 m.src, .int .i64 m.dst]
def mvRows (l : List Mv) : List (Array Value) := l.map Mv.row
theorem mvRows_snoc (l : List Mv) (m : Mv) : mvRows (l ++ [m]) = mvRows l ++ [m.row] := by simp [mvRows]
theorem mv_one (m : Mv) : ∀ u ∈ m.row.toList, u.oneCell' = true := fun u hu => by
  simp only [Mv.row, List.mem_cons, List.not_mem_nil, or_false] at hu
  rcases hu with rfl | rfl | rfl <;> rfl
def tkF (out : List Mv) (t : Int) : Option Value := if vTaken out t = true then some (.bool true) else none
theorem tkF_snoc (out : List Mv) (m : Mv) : tkF (out ++ [m]) = fun j => if j = m.dst then some (.bool true) else tkF out j := by
  funext j
  unfold tkF
  rw [vTaken_snoc]
  by_cases h : j = m.dst
  · subst h; simp
  · rw [if_neg h, decide_eq_false (fun e => h e.symm), Bool.or_false]
theorem tkF_look (out : List Mv) (t : Int) (b : Bool) (h : vTaken out t = b) : Value.bool b = if false = true then .tuple #[(tkF out t).getD (.bool false), .bool (tkF out t).isSome] else (tkF out t).getD (.bool false) := by
  subst h
  rw [if_neg (by decide)]
  unfold tkF
  cases vTaken out t <;> rfl
theorem info153 : (Tryz.prog.info? 153).map (fun i => (i.zero, i.size, i.bytes)) = some (some (.agg #[.int .i64 0, .int .i64 0, .int .i64 0]), 3, 24) := by kernel_rfl
structure AsBox (w W : World) (out : List Mv) (v : Value) : Prop where
  bel : Below w.heap.size w W
  mp : MapIs (fun a : Int => Value.int .i64 a) W w.heap.size (tkF out)
  own : Own W (w.heap.size + 1) 153 3 v (mvRows out)
section
variable {w W W1 W2 : World} {out : List Mv} {v v1 : Value}
theorem AsBox.below (h : AsBox w W out v) (hb : Below W.heap.size W W2) : AsBox w W2 out v := ⟨below_then h.bel h.bel.size hb, h.mp.below hb, h.own.below hb⟩
theorem AsBox.new (w : World) : AsBox w (w.alloc (.map #[] 0)) [] (.slice none 0 0) := ⟨(Below.refl _ _).alloc (Nat.le_refl _) _, MapIs.made w, Own.nil _ _ _ _⟩
theorem AsBox.upd (h : AsBox w W out v) (f t d : Int) (hm : MapIs (fun a : Int => Value.int .i64 a) W1 w.heap.size (fun j => if j = t then some (.bool true) else tkF out j)) (hg : W.grownBy W1 (some w.heap.size)) :
    Below w.heap.size w W1 ∧ MapIs (fun a : Int => Value.int .i64 a) W1 w.heap.size (tkF (out ++ [⟨f, d, t⟩])) ∧ Own W1 (w.heap.size + 1) 153 3 v (mvRows out) ∧ w.heap.size + 1 ≤ W1.heap.size := by
  refine ⟨h.bel.grown hg h.bel.size (fun k e => by cases e; exact Nat.le_refl _), by rw [tkF_snoc]; exact hm, h.own.kept hg (.inr (h.own.ne_map h.mp)), Nat.le_trans h.mp.lt hg.size⟩
theorem AsBox.app (h1 : Below w.heap.size w W1) (h2 : MapIs (fun a : Int => Value.int .i64 a) W1 w.heap.size (tkF out)) {rows : List (Array Value)} (h3 : Own W1 (w.heap.size + 1) 153 3 v rows) (ho : Own W2 (w.heap.size + 1) 153 3 v1 (mvRows out)) (hb : Below (w.heap.size + 1) W1 W2) (hg : W1.grownBy W2 v.ownBlock) : AsBox w W2 out v1 :=
  ⟨h1.trans (hb.mono (Nat.le_succ _)), h2.grown hg (fun e => by have := (h3.block _ e.symm).1; omega), ho⟩
end
theorem Own.at1 {w : World} {b : Nat} {e : TypeId} {v : Value} {rows : List (Array Value)} (h : Own w b e 1 v rows) {g n c : Nat} (hv : v = .slice (some ⟨g, 0, none⟩) n c) (k : Nat) (u : Value) (hk : rows[k]? = some #[u]) : w.cell? ⟨g, k, none⟩ = some u := by
  obtain ⟨g', cap, he, _, _, _, hc⟩ := h.cell hk
  subst hv
  simp only [Value.slice.injEq, Option.some.injEq, Addr.mk.injEq, and_true] at he
  obtain ⟨rfl, _⟩ := he
  have := (hc 0 (by omega)).1
  rw [Nat.mul_one, Nat.add_zero] at this
  rw [this]; rfl
def bRows (l : List Bool) : List (Array Value) := l.map fun b => #[.bool b]
/-- The days' impeded feasts in memory. -/
structure ImpIn (w : World) (base : Nat) (imp : List (List Int)) (us : List Value) : Prop where
  len : us.length = imp.length
  ins : ∀ (i : Nat) (u : Value), us[i]? = some u → ∃ l, imp[i]? = some l ∧ Own w base 3 1 u (intRows l)
set_option maxRecDepth 20000 in
set_option maxHeartbeats 1000000 in
theorem assign_c (free : List Bool) (imp : List (List Int)) (g1 g2 n1 c1 n2 c2 : Nat) (us : List Value) (base : Nat) (w : World) (hf : Hid (Own w base 4 1 (.slice (some ⟨g1, 0, none⟩) n1 c1) (bRows free))) (hi : Hid (Own w base 36 1 (.slice (some ⟨g2, 0, none⟩) n2 c2) (us.map fun u => #[u])))
    (hu : Hid (ImpIn w base imp us)) (e1 : free.length = n1) (e2 : imp.length = n2) (e3 : n1 = n2) (hN : n1 ≤ 1000) (hL : Hid (∀ l ∈ imp, l.length ≤ 1000)) :
    Calls Tryz.prog 62 #[.slice (some ⟨g1, 0, none⟩) n1 c1, .slice (some ⟨g2, 0, none⟩) n2 c2] w fun e w' => ((vAsg free 0 [] imp = none ∧ e = .returned (.tuple #[.slice none 0 0, .int .i64 5])) ∨ ∃ out v, vAsg free 0 [] imp = some out ∧ e = .returned (.tuple #[v, .int .i64 0]) ∧ Own w' w.heap.size 153 3 v (mvRows out)) ∧ Below w.heap.size w w' := by
  have hmm := @run_makeMap Tryz.prog
  have HB := Lib.hid (AsBox.new w)
  subst e3
  have t0 : ((n1 : Int) != (n1 : Int)) = false := by simp
  go_enter Tryz.func62, Tryz.ntmps62
  go_wp2_with fail
  go_loopw [6, 21] (fun o i wr => ∃ (k : Nat) (out : List Mv) (v : Value), v = o ∧ k ≤ n1 ∧ i = .int .i64 k ∧ Hid (AsBox w wr out v) ∧ Hid (vAsg free 0 [] (imp.take k) = some out)) (fun _ i _ => (n1 - intOf i).toNat)
  case atStart => exact ⟨0, [], _, rfl, by omega, rfl, HB, Lib.hid rfl⟩
  case round =>
    clear HB
    obtain ⟨k, out, v, rfl, k1, rfl, HB, HV⟩ := hrel
    by_cases hk : k < n1
    · obtain ⟨u, hu1⟩ : ∃ u, us[k]? = some u := ⟨_, List.getElem?_eq_getElem (by have := hu.out.len; omega)⟩
      obtain ⟨l, hl, ho⟩ := hu.out.ins k u hu1
      have c2' := (hi.out.below HB.out.bel).at1 (g := g2) rfl k u (by rw [List.getElem?_map, hu1]; rfl)
      have b2 := ((hi.out.below HB.out.bel).block g2 rfl).2
      have HO := Lib.hid ho
      obtain ⟨a, m, c, rfl⟩ := ho.named
      obtain ⟨m1, m2, _⟩ := Own.ints ho
      subst m1
      have LL := Lib.hid (hL.out l (List.mem_of_getElem? hl))
      have HL := Lib.hid hl
      have tk : ((k : Int) < (n1 : Int)) = True := by simp; exact_mod_cast hk
      clear hu1 ho hl
      go_wp2_with fail
      refine wp_scope_straight ?_
      go_wp2_with fail
      go_step3
      go_wp2_with fail
      go_loopw [6, 28] (fun o i wr => ∃ (j : Nat) (out : List Mv) (v : Value), v = o ∧ j ≤ l.length ∧ i = .int .i64 j ∧ Hid (AsBox w wr out v) ∧ Hid ((vAsg free 0 [] (imp.take k)).bind (fun o => vAsg1 free k o (l.take j)) = some out)) (fun _ i _ => (l.length - intOf i).toNat)
      case atStart => exact ⟨0, out, _, rfl, by omega, rfl, HB, Lib.hid (by rw [HV.out]; rfl)⟩
      case round =>
        clear HB HV c2' b2
        obtain ⟨j, out, v, rfl, j1, rfl, HB, HV⟩ := hrel
        by_cases hj : j < l.length
        · obtain ⟨f, hf⟩ : ∃ f, l[j]? = some f := ⟨_, List.getElem?_eq_getElem hj⟩
          have hr : (intRows l)[j]? = some #[.int .i64 f] := by simp [intRows, hf]
          obtain ⟨ga, ca, he, _, _, _, _⟩ := (HO.out.below HB.out.bel).cell hr
          simp only [Value.slice.injEq] at he
          obtain ⟨rfl, -, -⟩ := he
          have cl := (HO.out.below HB.out.bel).at1 (g := ga) rfl j _ hr
          have bl := ((HO.out.below HB.out.bel).block ga rfl).2
          have HF := Lib.hid hf
          have ll := LL.out
          have tj : ((j : Int) < (l.length : Int)) = True := by simp; exact_mod_cast hj
          clear hr hf
          go_wp2_with fail
          clear cl bl
          go_loopw [6, 12] (fun o i w3 => ∃ d : Nat, v = o ∧ w3 = wr ∧ i = .int .i64 d ∧ k + 1 ≤ d ∧ d ≤ n1 ∧ Hid (∀ u, k + 1 ≤ u → u < d → ¬ (free[u]? = some true ∧ vTaken out u = false))) (fun _ i _ => (n1 - intOf i).toNat)
          case atStart => exact ⟨k + 1, rfl, rfl, by go_num, by omega, by omega, Lib.hid (fun u h1 h2 => by omega)⟩
          case round =>
            obtain ⟨d, rfl, rfl, rfl, d1, d2, HD⟩ := hrel
            by_cases hd : d < n1
            · obtain ⟨b, hb⟩ : ∃ b, free[d]? = some b := ⟨_, List.getElem?_eq_getElem (by omega)⟩
              have cf := (hf.out.below HB.out.bel).at1 (g := g1) rfl d (.bool b) (by simp [bRows, hb])
              have bf := ((hf.out.below HB.out.bel).block g1 rfl).2
              have HBb := Lib.hid hb
              clear hb
              cases b with
              | false =>
                go_wp2_with fail
                exact ⟨⟨d + 1, rfl, trivial, by go_num, by omega, by omega, Lib.hid (fun u h1 h2 h3 => by
                  by_cases hu : u = d
                  · subst hu; rw [HBb.out] at h3; cases h3.1
                  · exact HD.out u h1 (by omega) h3)⟩, by simp [intOf]; omega⟩
              | true =>
                obtain ⟨tb, htb⟩ : ∃ tb, vTaken out d = tb := ⟨_, rfl⟩
                have HTB := Lib.hid htb
                clear htb
                cases tb with
                | true =>
                  have hlk : (Instr.lookup 151 (.map (some w.heap.size)) (.int .i64 d) false).run Tryz.prog wr = .ok (.bool true) wr := by
                    have := HB.out.mp.look (P := Tryz.prog) KI Tryz.underlying151 d zb false
                    rw [← tkF_look _ _ _ HTB.out] at this; exact this
                  go_wp2_with fail
                  exact ⟨⟨d + 1, rfl, trivial, by go_num, by omega, by omega, Lib.hid (fun u h1 h2 h3 => by
                    by_cases hu : u = d
                    · subst hu; rw [HTB.out] at h3; cases h3.2
                    · exact HD.out u h1 (by omega) h3)⟩, by simp [intOf]; omega⟩
                | false =>
                  have NX := Lib.hid (asg_next HV.out HF.out (nx_some (n := free.length) HD.out d1 (by omega) HBb.out HTB.out))
                  have SM : ((mvRows out).length + 1) * 24 ≤ 140737488355328 := by have := asg_small HV.out hL.out (by omega) LL.out; simp only [mvRows, List.length_map]; omega
                  have hlk : (Instr.lookup 151 (.map (some w.heap.size)) (.int .i64 d) false).run Tryz.prog wr = .ok (.bool false) wr := by
                    have := HB.out.mp.look (P := Tryz.prog) KI Tryz.underlying151 d zb false
                    rw [← tkF_look _ _ _ HTB.out] at this; exact this
                  go_wp2_with (first | (with_reducible refine wpl_mapUpdate 151 rfl rfl KI Tryz.underlying151 rfl HB.out.mp d (.bool true) rfl (by simp [Act.eval]) ?_; intro w5 hm hg hs; have HU := Lib.hid (HB.out.upd f d k hm hg); clear hm hg hs) | (at_builtin; ((refine own_app (w0 := w5) 78 153 rfl _ _ rfl Tryz.underlying78 info153 rfl (by decide) (by decide) _ rfl (Mv.row ⟨f, k, d⟩) rfl rfl (mv_one _) HU.out.2.2.1 (Below.refl _ _) HU.out.2.2.2 SM ?_); intro v2 w6 ho hb hg hat; (have HN := Lib.hid (AsBox.app HU.out.1 HU.out.2.1 HU.out.2.2.1 (out := out ++ [⟨f, k, d⟩]) (by rw [mvRows_snoc]; exact ho) hb hg)); clear ho hb hg hat HU)))
                  have JL : ((j : Int) + 1) ≤ 1000 := by have := LL.out; omega
                  go_roundw
                  case rel => exact ⟨j + 1, out ++ [⟨f, k, d⟩], _, rfl, by omega, by go_num, HN, NX⟩
                  case measure => simp [intOf]; omega
            · obtain rfl : d = n1 := by omega
              have FL := Lib.hid (asg_fail HV.out HL.out HF.out (by have := nx_none (n := free.length) (free := free) (out := out) (k := k) (fun u h1 h2 => HD.out u h1 (by omega)); exact this))
              go_wp2_with fail
              simp (config := { zetaDelta := true }) only [Exit.noGoto, Exit.inBlock, Exit.then]
              go_ret2
              exact ⟨.inl ⟨FL.out, rfl⟩, HB.out.bel⟩
        · obtain rfl : j = l.length := by omega
          have RN := Lib.hid (asg_round (by have := HV.out; rwa [List.take_length] at this) HL.out)
          go_wp2_with fail
          simp only [Exit.noGoto]
          go_wp2_with fail
          exact ⟨⟨k + 1, out, v, rfl, by omega, by go_num, HB, RN⟩, by simp [intOf]; omega⟩
    · obtain rfl : k = n1 := by omega
      go_wp2_with fail
      go_ret2
      exact ⟨.inr ⟨out, v, by have := HV.out; rwa [List.take_of_length_le (by omega)] at this, rfl, HB.out.own.less (Nat.le_succ _)⟩, HB.out.bel⟩
end Go.Proofs.YtdgaflcnigljlaaGreatDoor
/-
  Contracts of package transfer: the move to a day. No further condition.
-/
namespace Go.Proofs.YtdgaflcnigljlaaGreatDoor
open Go.RowKit Go.Proofs Go.MapKept Go.Proofs.YtdgaflcnigljlaaGreatDoorW.PrintWords
set_option linter.unusedVariables false
/-- The first move to a day. -/
def vTake (l : List Mv) (i : Int) : Option Mv := l.find? fun m => decide (m.dst = i)
def mv0 : Mv := ⟨0, 0, 0⟩
theorem vTake_none {l : List Mv} {i : Int} (h : ∀ m ∈ l, m.dst ≠ i) : vTake l i = none := by
  unfold vTake
  rw [List.find?_eq_none]
  intro m hm; simpa using h m hm
theorem vTake_at {l : List Mv} {i : Int} {k : Nat} {m : Mv} (hk : l[k]? = some m) (hm : m.dst = i) (h : ∀ j m', j < k → l[j]? = some m' → m'.dst ≠ i) : vTake l i = some m := by
  unfold vTake
  induction l generalizing k with
  | nil => simp at hk
  | cons a l ih =>
    cases k with
    | zero => simp only [List.getElem?_cons_zero, Option.some.injEq] at hk; subst hk; simp [hm]
    | succ k =>
      rw [List.find?_cons_of_neg (by simpa using h 0 a (by omega) rfl)]
      exact ih (by simpa using hk) (fun j m' hj hm' => h (j + 1) m' (by omega) (by simpa using hm'))
structure TkBox (w W : World) : Prop where
  bel : Below w.heap.size w W
  res : Blk W w.heap.size #[.int .i64 0, .int .i64 0, .int .i64 0] 153
theorem TkBox.new (w : World) : TkBox w (w.alloc (.cells #[.int .i64 0, .int .i64 0, .int .i64 0] 153)) := ⟨(Below.refl _ _).alloc (Nat.le_refl _) _, Blk.new _ _ _⟩
theorem TkBox.below {w W W2 : World} (h : TkBox w W) (hb : Below W.heap.size W W2) : TkBox w W2 := ⟨below_then h.bel h.bel.size hb, h.res.below hb⟩
set_option maxRecDepth 20000 in
set_option maxHeartbeats 1000000 in
theorem taken_c (l : List Mv) (v : Value) (i : Int) (base : Nat) (w : World) (h : Hid (Own w base 153 3 v (mvRows l))) (hl : l.length ≤ 10000000) :
    Calls Tryz.prog 100 #[v, .int .i64 i] w fun e w' => e = .returned (.tuple #[.agg ((vTake l i).getD mv0).row, .bool (vTake l i).isSome]) ∧ Below w.heap.size w w' := by
  have HB := Lib.hid (TkBox.new w)
  obtain ⟨A, c, rfl, _⟩ := h.out.form
  obtain ⟨n, hn⟩ : ∃ n, (mvRows l).length = n := ⟨_, rfl⟩
  have hn' : n = l.length := by rw [← hn]; simp [mvRows]
  rw [hn] at h ⊢
  go_enter Tryz.func100, Tryz.ntmps100
  go_wp2_with fail
  go_loopw [10] (fun j wr => ∃ k : Nat, k ≤ n ∧ j = .int .i64 k ∧ Hid (TkBox w wr) ∧ Hid (∀ j m', j < k → l[j]? = some m' → m'.dst ≠ i)) (fun j _ => (n - intOf j).toNat)
  case atStart => exact ⟨0, by omega, rfl, HB, Lib.hid (fun j m' h => by omega)⟩
  case round =>
    clear HB
    obtain ⟨k, k1, rfl, HB, HN⟩ := hrel
    by_cases hk : k < n
    · obtain ⟨m, hm⟩ : ∃ m, l[k]? = some m := ⟨_, List.getElem?_eq_getElem (by omega)⟩
      obtain ⟨g, cap, he, _, glt, _, hc⟩ := (h.out.below HB.out.bel).cell (k := k) (cs := m.row) (by simp [mvRows, hm])
      simp only [Value.slice.injEq] at he
      obtain ⟨rfl, -, -⟩ := he
      have c0 : wr.cell? ⟨g, k * 3, none⟩ = some (.int .i64 m.feast) := (hc 0 (by omega)).1
      have c1 : wr.cell? ⟨g, k * 3 + 1, none⟩ = some (.int .i64 m.src) := (hc 1 (by omega)).1
      have c2 : wr.cell? ⟨g, k * 3 + 2, none⟩ = some (.int .i64 m.dst) := (hc 2 (by omega)).1
      have r0 := HB.out.res.cell 0
      have r1 := HB.out.res.cell 1
      have r2 := HB.out.res.cell 2
      have f0 := HB.out.res.frozen 0
      have f1 := HB.out.res.frozen 1
      have f2 := HB.out.res.frozen 2
      have rlt := HB.out.res.lt
      have HM := Lib.hid hm
      clear hm hc
      have hk' : (k : Int) < n := by omega
      by_cases hd : m.dst = i
      · subst hd
        have t1 : (m.dst == m.dst) = true := by simp
        have HT := Lib.hid (vTake_at HM.out rfl HN.out)
        go_wp2_with fail
        refine bodyPost_ret (results_ct rfl _ _ w.heap.size 153 #[.int .i64 m.feast, .int .i64 m.src, .int .i64 m.dst] (0, 0) _ rfl ((((HB.out.res.put 0 _ rfl).put 1 _ rfl).put 2 _ rfl).alloc _) Tryz.underlying153 rfl (by kernel_rfl)) rfl ⟨by rw [HT.out]; rfl, ?_⟩
        have hb := ((HB.out.bel.setCell (Nat.le_refl _) (p := ⟨w.heap.size, 0, none⟩) (.int .i64 m.feast)).setCell (Nat.le_refl _) (p := ⟨w.heap.size, 1, none⟩) (.int .i64 m.src)).setCell (Nat.le_refl _) (p := ⟨w.heap.size, 2, none⟩) (.int .i64 m.dst)
        exact hb.alloc hb.size _
      · have t1 : (m.dst == i) = false := by simp [hd]
        go_wp2_with fail
        exact ⟨⟨k + 1, by omega, by go_num, Lib.hid (HB.out.below ((Below.refl _ _).alloc (Nat.le_refl _) _)), Lib.hid (fun j m' hj hm' => by
          by_cases e : j = k
          · subst e; rw [HM.out] at hm'; cases hm'; exact hd
          · exact HN.out j m' (by omega) hm')⟩, by simp [intOf]; omega⟩
    · obtain rfl : k = n := by omega
      have HT := Lib.hid (vTake_none (l := l) (i := i) (fun m hm => by
        obtain ⟨j, hj, e⟩ := List.getElem_of_mem hm
        exact HN.out j m (by omega) (by rw [List.getElem?_eq_getElem hj, e])))
      have r0 := HB.out.res.cell 0
      have r1 := HB.out.res.cell 1
      have r2 := HB.out.res.cell 2
      have f0 := HB.out.res.frozen 0
      have f1 := HB.out.res.frozen 1
      have f2 := HB.out.res.frozen 2
      have rlt := HB.out.res.lt
      go_wp2_with fail
      refine bodyPost_ret (results_ct rfl _ _ w.heap.size 153 #[.int .i64 0, .int .i64 0, .int .i64 0] (0, 0) _ rfl (((HB.out.res.put 0 _ rfl).put 1 _ rfl).put 2 _ rfl) Tryz.underlying153 rfl (by kernel_rfl)) rfl ⟨by rw [HT.out]; rfl, ?_⟩
      exact ((HB.out.bel.setCell (Nat.le_refl _) _).setCell (Nat.le_refl _) _).setCell (Nat.le_refl _) _
end Go.Proofs.YtdgaflcnigljlaaGreatDoor
