/-
  Contracts and plain facts for the laws on the whole program: the parts below say each what they are. No further condition.
-/
import Derived.Test.YtdgaflcnigljlaaGreatDoorS37
set_option linter.unusedSimpArgs false
/-
  A catalogue with one feast more, of the lowest rank, to be omitted: its calendar differs in the list of omitted feasts of one day alone. Plain law. No further condition.
-/
namespace Go.Proofs.YtdgaflcnigljlaaGreatDoor
open Go.RowKit
set_option linter.unusedVariables false
/-- The catalogue with a feast appended. -/
def Cat.snoc (C : Cat) (z : Fea) : Cat := { C with feas := C.feas ++ [z] }
/-- What belongs to the law. -/
structure Omt (C : Cat) (z : Fea) : Prop where
  g : C.Good
  rank : z.rank = 9
  pol : z.pol = 3
section
variable {C : Cat} {z : Fea} {y : Int}
def omN (C : Cat) (z : Fea) : Cand := ⟨2, C.feas.length, z.rank, z.id⟩
/-- The feast itself, on its day. -/
def omX (C : Cat) (z : Fea) (y d : Int) : List Cand := if z.at_.day y = d then [omN C z] else []
theorem snoc_prop (d : Int) : vPropL (C.snoc z) y (C.snoc z).feas.length d = vPropL C y C.feas.length d ++ omX C z y d := by
  have hl : (C.snoc z).feas.length = C.feas.length + 1 := by simp [Cat.snoc]
  have ha : (C.snoc z).feas[C.feas.length]? = some z := by simp [Cat.snoc]
  rw [hl, vPropL_succ ha]
  congr 1
  unfold vPropL
  congr 2
  show (C.feas ++ [z]).take C.feas.length = C.feas.take C.feas.length
  rw [List.take_left' rfl, List.take_length]
theorem snoc_cands (d : Int) : vCands (C.snoc z) y d = vCands C y d ++ omX C z y d := by
  unfold vCands
  rw [snoc_prop]; rfl
theorem sea_ranks {C : Cat} (hG : C.Good) (d : Int) : (vTemp C y d).rank ≤ 9 := by
  have hs := hG.sea _ (List.mem_of_getElem? (find_idx (y := y) (d := d) hG).2.2)
  show (if d % 7 = 0 then (vSea C y d).sun else (vSea C y d).wk) ≤ 9
  split
  · exact hs.s2
  · exact hs.w2
theorem prop_at {C : Cat} {y d : Int} {x : Cand} (h : x ∈ vPropL C y C.feas.length d) : x.kind = 2 ∧ ∃ (k : Nat) (f : Fea), C.feas[k]? = some f ∧ x = ⟨2, k, f.rank, f.id⟩ ∧ f.at_.day y = d := by
  obtain ⟨p, hp, hq⟩ := List.mem_filterMap.1 h
  rw [List.take_length] at hp
  unfold feaC at hq
  split at hq
  · rename_i e
    cases hq
    exact ⟨rfl, p.2, p.1, List.mem_zipIdx_iff_getElem?.1 hp, rfl, e⟩
  · cases hq
theorem omt_last (h : Omt C z) (d : Int) : ∀ x ∈ vCands C y d, Prec x (omN C z) := fun x hx => by
  rcases List.mem_cons.1 hx with rfl | hx
  · have := sea_ranks (y := y) h.g d
    show (vTemp C y d).rank < z.rank ∨ (vTemp C y d).rank = z.rank ∧ ((1 : Int) < 2 ∨ _)
    rw [h.rank]
    rcases Int.lt_or_eq_of_le this with a | a
    · exact .inl a
    · exact .inr ⟨a, .inl (by decide)⟩
  · obtain ⟨_, k, f, hk, rfl, _⟩ := prop_at hx
    have h2 := (h.g.fea f (List.mem_of_getElem? hk)).r2
    have h3 := (List.getElem?_eq_some_iff.1 hk).1
    show f.rank < z.rank ∨ f.rank = z.rank ∧ ((2 : Int) < 2 ∨ (2 : Int) = 2 ∧ (k : Int) < (C.feas.length : Int))
    rw [h.rank]
    omega
theorem omt_tot (h : Omt C z) (d : Int) : Tot (vCands C y d ++ omX C z y d) := by
  rw [← snoc_cands]; exact cands_tot _ _ _
theorem omt_line (h : Omt C z) (i : Nat) : vLine (C.snoc z) y i = vLine C y i ++ omX C z y (vFirst y + i) := by
  unfold vLine
  rw [snoc_cands]
  refine (vSort_uniq ((vSort_perm _).append_right _) ?_ (omt_tot h _)).symm
  rw [List.pairwise_append]
  refine ⟨vSort_ord (cands_tot _ _ _), ?_, fun a ha b hb => ?_⟩
  · unfold omX; split
    · exact List.pairwise_singleton _ _
    · exact List.Pairwise.nil
  · unfold omX at hb; split at hb
    · rw [List.mem_singleton] at hb
      subst hb
      exact omt_last h _ a ((vSort_perm _).mem_iff.1 ha)
    · cases hb
theorem snoc_pol {i : Int} (h0 : 0 ≤ i) (h1 : i < C.feas.length) : polOf (C.snoc z) i = polOf C i := by
  unfold polOf
  rw [show (C.snoc z).feas[i.toNat]? = C.feas[i.toNat]? from List.getElem?_append_left (by omega)]
theorem snoc_feaOf {i : Int} (h0 : 0 ≤ i) (h1 : i < C.feas.length) : feaOf (C.snoc z) i = feaOf C i := by
  unfold feaOf
  rw [show (C.snoc z).feas[i.toNat]? = C.feas[i.toNat]? from List.getElem?_append_left (by omega)]
theorem snoc_idOf {i : Int} (h0 : 0 ≤ i) (h1 : i < C.feas.length) : idOf (C.snoc z) i = idOf C i := by
  unfold idOf
  rw [show (C.snoc z).feas[i.toNat]? = C.feas[i.toNat]? from List.getElem?_append_left (by omega)]
theorem snoc_polN : polOf (C.snoc z) (C.feas.length : Nat) = z.pol := by
  unfold polOf
  rw [show (C.snoc z).feas[((C.feas.length : Nat) : Int).toNat]? = some z by simp [Cat.snoc]]
theorem snoc_vPol {l : List Cand} (h : CdOk C l) (p : Int) : vPol (C.snoc z) p l = vPol C p l := by
  unfold vPol
  refine fm_congr fun x hx => ?_
  by_cases hk : x.kind = 2
  · obtain ⟨a, b⟩ := h x hx hk
    rw [snoc_pol a b]
  · rw [if_neg (fun e => hk e.1), if_neg (fun e => hk e.1)]
/-- What the day omits besides. -/
def omI (C : Cat) (z : Fea) (y d : Int) : List Int := if z.at_.day y = d then [(C.feas.length : Int)] else []
theorem omx_pol (h : Omt C z) (d p : Int) : vPol (C.snoc z) p (omX C z y d) = if p = 3 then omI C z y d else [] := by
  unfold omX omI
  by_cases e : z.at_.day y = d
  · rw [if_pos e, if_pos e]
    have := snoc_polN (C := C) (z := z)
    rw [h.pol] at this
    by_cases hp : p = 3
    · subst hp
      simp [vPol, omN, this]
    · rw [if_neg hp]
      simp [vPol, omN, this, Ne.symm hp]
  · rw [if_neg e, if_neg e]
    simp [vPol]
theorem line_pos {C : Cat} (hG : C.Good) (y : Int) (i : Nat) : 1 ≤ (vLine C y i).length := by
  have h1 := (cands_len hG y (vFirst y + i)).1
  have h2 := (vSort_perm (vCands C y (vFirst y + i))).length_eq
  unfold vLine; omega
theorem omt_rz (h : Omt C z) (i : Nat) : vRz (C.snoc z) y i = { vRz C y i with om := (vRz C y i).om ++ omI C z y (vFirst y + i) } := by
  have hl := line_pos h.g y i
  have ok := line_ok h.g y i
  have ok' : CdOk C ((vLine C y i).drop 1) := fun x hx => ok x (List.mem_of_mem_drop hx)
  have key : ∀ p, vPol (C.snoc z) p ((vLine C y i ++ omX C z y (vFirst y + i)).drop 1) = vPol C p ((vLine C y i).drop 1) ++ if p = 3 then omI C z y (vFirst y + i) else [] := fun p => by
    rw [List.drop_append_of_le_length hl]
    rw [show vPol (C.snoc z) p ((vLine C y i).drop 1 ++ omX C z y (vFirst y + i)) = vPol (C.snoc z) p ((vLine C y i).drop 1) ++ vPol (C.snoc z) p (omX C z y (vFirst y + i)) from List.filterMap_append, snoc_vPol ok', omx_pol h]
  unfold vRz
  rw [omt_line h]
  simp only [key]
  have hf : F (vLine C y i ++ omX C z y (vFirst y + i)) 0 = F (vLine C y i) 0 := by
    unfold F
    rw [List.getD_eq_getElem?_getD, List.getD_eq_getElem?_getD, List.getElem?_append_left hl]
  rw [hf]
  simp
theorem omt_moves (h : Omt C z) : vMoves (C.snoc z) y = vMoves C y := by
  unfold vMoves vFreeL vImpL
  simp only [omt_rz h]
  rfl
theorem omt_en (h : Omt C z) {l : List Mv} (hl : vMoves C y = some l) (i : Nat) : vEnI (C.snoc z) y l i = { vEnI C y l i with omi := (vEnI C y l i).omi ++ omI C z y (vFirst y + i) } := by
  cases e : vTake l i with
  | none => rw [en_none (by rw [e]; rfl), en_none (by rw [e]; rfl), omt_rz h]
  | some m =>
    have hm := (moves_ok h.g hl).2 m (List.mem_of_find?_eq_some e)
    have hp := rz_ok h.g y i
    rw [en_some e, en_some e, omt_rz h, snoc_feaOf hm.1 hm.2.1]
    simp only []
    by_cases hk : (vRz C y i).p.kind = 2
    · rw [snoc_pol (hp hk).1 (hp hk).2]
      by_cases h3 : polOf C (vRz C y i).p.idx = 3
      · simp [hk, h3]
      · simp [hk, h3]
    · simp [hk]
theorem omt_ids {l : List Int} (h : ∀ j ∈ l, 0 ≤ j ∧ j < C.feas.length) : vIds (C.snoc z) l = vIds C l := List.map_congr_left fun j hj => snoc_idOf (h j hj).1 (h j hj).2
theorem omt_idN : idOf (C.snoc z) (C.feas.length : Nat) = z.id := by
  unfold idOf
  rw [show (C.snoc z).feas[((C.feas.length : Nat) : Int).toNat]? = some z by simp [Cat.snoc]]
/-- The entries of both catalogues. -/
theorem omt_com (h : Omt C z) {l : List Mv} (hl : vMoves C y = some l) (i : Nat) : vIds (C.snoc z) (vEnI (C.snoc z) y l i).com = vIds C (vEnI C y l i).com ∧ vIds (C.snoc z) (vEnI (C.snoc z) y l i).omi = vIds C (vEnI C y l i).omi ++ (if z.at_.day y = vFirst y + i then [z.id] else []) := by
  obtain ⟨a, b, _⟩ := en_ok h.g y l i
  rw [omt_en h hl]
  refine ⟨omt_ids a, ?_⟩
  show vIds (C.snoc z) ((vEnI C y l i).omi ++ omI C z y (vFirst y + i)) = _
  rw [show vIds (C.snoc z) ((vEnI C y l i).omi ++ omI C z y (vFirst y + i)) = vIds (C.snoc z) (vEnI C y l i).omi ++ vIds (C.snoc z) (omI C z y (vFirst y + i)) from List.map_append, omt_ids b]
  congr 1
  unfold omI
  split
  · show [idOf (C.snoc z) (C.feas.length : Nat)] = _
    rw [omt_idN]
  · rfl
end
end Go.Proofs.YtdgaflcnigljlaaGreatDoor
