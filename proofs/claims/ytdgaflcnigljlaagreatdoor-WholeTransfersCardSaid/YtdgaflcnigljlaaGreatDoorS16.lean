/-
  Contracts and plain facts for the laws on the whole program: the parts below say each what they are. No further condition.
-/
import Derived.Test.YtdgaflcnigljlaaGreatDoorS09
import Derived.Test.YtdgaflcnigljlaaGreatDoorS14
import Derived.Test.YtdgaflcnigljlaaGreatDoorS15
set_option linter.unusedSimpArgs false
/-
  Contracts of package sort at rows of candidates, through its interface: exchanging two ranges, rotating. No further condition.
-/
namespace Go.Proofs.YtdgaflcnigljlaaGreatDoor
open Go.RowKit Go.Proofs Go.Proofs.YtdgaflcnigljlaaGreatDoorW.PrintWords
set_option linter.unusedVariables false
/-- Two ranges of k rows have changed places. -/
structure SR (l l' : List Cand) (a b k : Nat) : Prop where
  perm : l'.Perm l
  at_ : ∀ x, F l' x = if a ≤ x ∧ x < a + k then F l (b + (x - a)) else if b ≤ x ∧ x < b + k then F l (a + (x - b)) else F l x
theorem SR.refl (l : List Cand) (a b : Nat) : SR l l a b 0 := ⟨List.Perm.refl _, fun x => by rw [if_neg (by omega), if_neg (by omega)]⟩
theorem SR.step {l r : List Cand} {a b k : Nat} (h : SR l r a b k) (h1 : a + k < b) (h2 : b + k < l.length) : SR l (sw r (a + k) (b + k)) a b (k + 1) := by
  have rl := h.perm.length_eq
  refine ⟨(sw_perm (by omega) (by omega)).trans h.perm, fun x => ?_⟩
  rw [F_sw (by omega) (by omega), h.at_ (a + k), h.at_ (b + k), h.at_ x]
  repeat' split
  all_goals first | rfl | (exfalso; omega) | (congr 1; omega)
set_option maxRecDepth 20000 in
set_option maxHeartbeats 1000000 in
theorem swr_c (l : List Cand) (base g cap n : Nat) (w0 w : World) (hS : Hid (CoBox w0 w base g cap n l)) (a b k : Nat) (h1 : a + k ≤ b) (h2 : b + k ≤ l.length) (h3 : l.length ≤ 1000) :
    Calls Tryz.prog 245 #[.iface 186 (.slice (some ⟨g, 0, none⟩) n cap), .int .i64 a, .int .i64 b, .int .i64 k] w fun e w' => ∃ l', (e = .returned (.tuple #[]) ∧ CoBox w0 w' base g cap n l') ∧ SR l l' a b k := by
  have hm2 := mSwap (.slice (some ⟨g, 0, none⟩) n cap)
  go_enter Tryz.func245, Tryz.ntmps245
  go_wp2_with fail
  go_loopw [8] (fun i wr => ∃ (t : Nat) (rows : List Cand), t ≤ k ∧ i = .int .i64 t ∧ Hid (CoBox w0 wr base g cap n rows) ∧ Hid (SR l rows a b t)) (fun i _ => (k - intOf i).toNat)
  case atStart => exact ⟨0, l, by omega, rfl, hS, Lib.hid (SR.refl _ _ _)⟩
  case round =>
    obtain ⟨t, rows, t1, rfl, HS, HQ⟩ := hrel
    have rl := HQ.out.perm.length_eq
    by_cases hk : t < k
    · have tb : decide ((t : Int) < k) = true := by simp; omega
      obtain ⟨p, hp⟩ : ∃ p, a + t = p := ⟨_, rfl⟩
      obtain ⟨q, hq⟩ : ∃ q, b + t = q := ⟨_, rfl⟩
      have p1 : (a : Int) + (t : Int) = (p : Int) := by omega
      have q1 : (b : Int) + (t : Int) = (q : Int) := by omega
      have p2 : p < rows.length := by omega
      have q2 : q < rows.length := by omega
      have pq : p ≠ q := by omega
      have HP := Lib.hid (show SR l (sw rows p q) a b (t + 1) by subst hp; subst hq; exact HQ.out.step (by omega) (by omega))
      clear hp hq
      go_wp2_with (first | (go_at_call 291; with_reducible refine (swapF_c rows base g cap n w0 _ HS p q p2 q2 pq).mono ?_; rintro e w4 ⟨rfl, hw⟩; have HS2 := Lib.hid hw; clear hw))
      exact ⟨⟨t + 1, _, by omega, by go_num, HS2, HP⟩, by simp [intOf]; omega⟩
    · obtain rfl : t = k := by omega
      go_wp2_with fail
      go_end0
      exact ⟨rows, ⟨rfl, HS.out⟩, HQ.out⟩
/-- Where the rotation takes its rows from. -/
def RT (l : List Cand) (a m b x : Nat) : Cand := if x < a + (b - m) then F l (m + (x - a)) else F l (x - (b - m))
structure RO (l l' : List Cand) (a m b : Nat) : Prop where
  perm : l'.Perm l
  out : ∀ x, (x < a ∨ b ≤ x) → F l' x = F l x
  at_ : ∀ x, a ≤ x → x < b → F l' x = RT l a m b x
/-- Within the rotation: two blocks are still to change places. -/
structure RM (l r : List Cand) (a m b i j : Nat) : Prop where
  perm : r.Perm l
  out : ∀ x, (x < a ∨ b ≤ x) → F r x = F l x
  done : ∀ x, a ≤ x → x < b → (x + i < m ∨ m + j ≤ x) → F r x = RT l a m b x
  left : ∀ x, m ≤ x + i → x < m → F r x = RT l a m b (x + j)
  right : ∀ x, m ≤ x → x < m + j → F r x = RT l a m b (x - i)
theorem RM.start {l : List Cand} {a m b : Nat} (h1 : a ≤ m) (h2 : m ≤ b) : RM l l a m b (m - a) (b - m) := by
  refine ⟨List.Perm.refl _, fun _ _ => rfl, fun x c1 c2 c3 => by omega, fun x c1 c2 => ?_, fun x c1 c2 => ?_⟩
  · unfold RT; rw [if_neg (by omega)]; congr 1; omega
  · unfold RT; rw [if_pos (by omega)]; congr 1; omega
theorem RM.gt {l r r' : List Cand} {a m b i j : Nat} (h : RM l r a m b i j) (hij : j < i) (hi : i ≤ m - a) (hj : j ≤ b - m) (ha : a ≤ m) (hb : m ≤ b) (hs : SR r r' (m - i) m j) : RM l r' a m b (i - j) j := by
  refine ⟨hs.perm.trans h.perm, fun x c => ?_, fun x c1 c2 c3 => ?_, fun x c1 c2 => ?_, fun x c1 c2 => ?_⟩
  · rw [hs.at_, if_neg (by omega), if_neg (by omega), h.out x c]
  · rw [hs.at_]
    by_cases e : m - i ≤ x ∧ x < m - i + j
    · rw [if_pos e, h.right _ (by omega) (by omega)]; congr 1; omega
    · rw [if_neg e, if_neg (by omega), h.done x c1 c2 (by omega)]
  · rw [hs.at_, if_neg (by omega), if_neg (by omega), h.left x (by omega) c2]
  · rw [hs.at_, if_neg (by omega), if_pos (by omega), h.left _ (by omega) (by omega)]; congr 1; omega
theorem RM.lt {l r r' : List Cand} {a m b i j : Nat} (h : RM l r a m b i j) (hij : i < j) (hi : i ≤ m - a) (hj : j ≤ b - m) (ha : a ≤ m) (hb : m ≤ b) (hs : SR r r' (m - i) (m + j - i) i) : RM l r' a m b i (j - i) := by
  refine ⟨hs.perm.trans h.perm, fun x c => ?_, fun x c1 c2 c3 => ?_, fun x c1 c2 => ?_, fun x c1 c2 => ?_⟩
  · rw [hs.at_, if_neg (by omega), if_neg (by omega), h.out x c]
  · rw [hs.at_]
    by_cases e : m + j - i ≤ x ∧ x < m + j - i + i
    · rw [if_neg (by omega), if_pos e, h.left _ (by omega) (by omega)]; congr 1; omega
    · rw [if_neg (by omega), if_neg e, h.done x c1 c2 (by omega)]
  · rw [hs.at_, if_pos (by omega), h.right _ (by omega) (by omega)]; congr 1; omega
  · rw [hs.at_, if_neg (by omega), if_neg (by omega), h.right x c1 (by omega)]
theorem RM.eq {l r r' : List Cand} {a m b i : Nat} (h : RM l r a m b i i) (hi : i ≤ m - a) (hj : i ≤ b - m) (ha : a ≤ m) (hb : m ≤ b) (hs : SR r r' (m - i) m i) : RO l r' a m b := by
  refine ⟨hs.perm.trans h.perm, fun x c => ?_, fun x c1 c2 => ?_⟩
  · rw [hs.at_, if_neg (by omega), if_neg (by omega), h.out x c]
  · rw [hs.at_]
    by_cases e : m - i ≤ x ∧ x < m - i + i
    · rw [if_pos e, h.right _ (by omega) (by omega)]; congr 1; omega
    · rw [if_neg e]
      by_cases e2 : m ≤ x ∧ x < m + i
      · rw [if_pos e2, h.left _ (by omega) (by omega)]; congr 1; omega
      · rw [if_neg e2, h.done x c1 c2 (by omega)]
set_option maxRecDepth 20000 in
set_option maxHeartbeats 1000000 in
theorem rot_c (l : List Cand) (base g cap n : Nat) (w0 w : World) (hS : Hid (CoBox w0 w base g cap n l)) (a m b : Nat) (h1 : a < m) (h2 : m < b) (h4 : b ≤ l.length) (h3 : l.length ≤ 1000) :
    Calls Tryz.prog 227 #[.iface 186 (.slice (some ⟨g, 0, none⟩) n cap), .int .i64 a, .int .i64 m, .int .i64 b] w fun e w' => ∃ l', (e = .returned (.tuple #[]) ∧ CoBox w0 w' base g cap n l') ∧ RO l l' a m b := by
  obtain ⟨i0, hi0⟩ : ∃ i0, m - a = i0 := ⟨_, rfl⟩
  obtain ⟨j0, hj0⟩ : ∃ j0, b - m = j0 := ⟨_, rfl⟩
  have e1 : (m : Int) - (a : Int) = (i0 : Int) := by omega
  have e2 : (b : Int) - (m : Int) = (j0 : Int) := by omega
  have HM := Lib.hid (show RM l l a m b i0 j0 by subst hi0; subst hj0; exact RM.start (by omega) (by omega))
  have I1 : 1 ≤ i0 := by omega
  have J1 : 1 ≤ j0 := by omega
  have I2 := Lib.hid hi0
  have J2 := Lib.hid hj0
  clear hi0 hj0
  go_enter Tryz.func227, Tryz.ntmps227
  go_wp2_with fail
  go_loopw [8, 9] (fun i j wr => ∃ (p q : Nat) (rows : List Cand), 1 ≤ p ∧ p ≤ i0 ∧ 1 ≤ q ∧ q ≤ j0 ∧ i = .int .i64 p ∧ j = .int .i64 q ∧ Hid (CoBox w0 wr base g cap n rows) ∧ Hid (RM l rows a m b p q)) (fun i j _ => (intOf i).toNat + (intOf j).toNat)
  case atStart => exact ⟨i0, j0, l, I1, Nat.le_refl _, J1, Nat.le_refl _, rfl, rfl, hS, HM⟩
  case round =>
    clear HM
    obtain ⟨p, q, rows, p1, p2, q1, q2, rfl, rfl, HS, HM⟩ := hrel
    have rl := HM.out.perm.length_eq
    have i2 := I2.out
    have j2 := J2.out
    obtain ⟨c, hc⟩ : ∃ c, m - p = c := ⟨_, rfl⟩
    have c1 : (m : Int) - (p : Int) = (c : Int) := by omega
    by_cases hlt : p < q
    · have t1 : ((p : Int) == (q : Int)) = false := by simp; omega
      have t2 : decide ((q : Int) < (p : Int)) = false := by simp; omega
      obtain ⟨d, hd⟩ : ∃ d, m + q - p = d := ⟨_, rfl⟩
      obtain ⟨d', hd'⟩ : ∃ d', m + q = d' := ⟨_, rfl⟩
      have d0 : (m : Int) + (q : Int) = (d' : Int) := by omega
      have d1 : (d' : Int) - (p : Int) = (d : Int) := by omega
      obtain ⟨q', hq'⟩ : ∃ q', q - p = q' := ⟨_, rfl⟩
      have d2 : (q : Int) - (p : Int) = (q' : Int) := by omega
      have K1 : c + p ≤ d := by omega
      have K2 : d + p ≤ rows.length := by omega
      have K3 : rows.length ≤ 1000 := by omega
      have KK := Lib.hid (show ∀ r', SR rows r' c d p → RM l r' a m b p q' by
        intro r' hs; subst hc; subst hd; subst hq'; exact HM.out.lt hlt (by omega) (by omega) (by omega) (by omega) hs)
      have KN : 1 ≤ q' ∧ q' ≤ j0 ∧ q' < q := by omega
      clear hc hd hd' hq' i2 j2
      go_wp2_with (first | (go_at_call 245; with_reducible refine (swr_c rows base g cap n w0 _ HS c d p K1 K2 K3).mono ?_; rintro e w4 ⟨l', ⟨rfl, hw⟩, hs⟩; have HS2 := Lib.hid hw; have HM2 := Lib.hid (KK.out _ hs); clear hw hs))
      exact ⟨⟨p, q', l', p1, p2, KN.1, KN.2.1, rfl, rfl, HS2, HM2⟩, by simp [intOf]; omega⟩
    · by_cases heq : p = q
      · subst heq
        have t1 : ((p : Int) == (p : Int)) = true := by simp
        have K1 : c + p ≤ m := by omega
        have K2 : m + p ≤ rows.length := by omega
        have K3 : rows.length ≤ 1000 := by omega
        have KK := Lib.hid (show ∀ r', SR rows r' c m p → RO l r' a m b by
          intro r' hs; subst hc; exact HM.out.eq (by omega) (by omega) (by omega) (by omega) hs)
        clear hc i2 j2
        go_wp2_with (first | (go_at_call 245; with_reducible refine (swr_c rows base g cap n w0 _ HS c m p K1 K2 K3).mono ?_; rintro e w4 ⟨l', ⟨rfl, hw⟩, hs⟩; have HS2 := Lib.hid hw; have HM2 := Lib.hid (KK.out _ hs); clear hw hs))
        go_end0
        exact ⟨l', ⟨rfl, HS2.out⟩, HM2.out⟩
      · have t1 : ((p : Int) == (q : Int)) = false := by simp; omega
        have t2 : decide ((q : Int) < (p : Int)) = true := by simp; omega
        obtain ⟨p', hp'⟩ : ∃ p', p - q = p' := ⟨_, rfl⟩
        have d2 : (p : Int) - (q : Int) = (p' : Int) := by omega
        have K1 : c + q ≤ m := by omega
        have K2 : m + q ≤ rows.length := by omega
        have K3 : rows.length ≤ 1000 := by omega
        have KK := Lib.hid (show ∀ r', SR rows r' c m q → RM l r' a m b p' q by
          intro r' hs; subst hc; subst hp'; exact HM.out.gt (by omega) (by omega) (by omega) (by omega) (by omega) hs)
        have KN : 1 ≤ p' ∧ p' ≤ i0 ∧ p' < p := by omega
        clear hc hp' i2 j2
        go_wp2_with (first | (go_at_call 245; with_reducible refine (swr_c rows base g cap n w0 _ HS c m q K1 K2 K3).mono ?_; rintro e w4 ⟨l', ⟨rfl, hw⟩, hs⟩; have HS2 := Lib.hid hw; have HM2 := Lib.hid (KK.out _ hs); clear hw hs))
        exact ⟨⟨p', q, l', KN.1, KN.2.1, q1, q2, rfl, rfl, HS2, HM2⟩, by simp [intOf]; omega⟩
end Go.Proofs.YtdgaflcnigljlaaGreatDoor
/-
  Merging in place: plain laws. No further condition.
-/
namespace Go.Proofs.YtdgaflcnigljlaaGreatDoor
open Go.RowKit
set_option linter.unusedVariables false
/-- Row a has gone up to k. -/
structure MU (l r : List Cand) (a k : Nat) : Prop where
  perm : r.Perm l
  at_ : ∀ x, F r x = if a ≤ x ∧ x < k then F l (x + 1) else if x = k then F l a else F l x
theorem MU.start (l : List Cand) (a : Nat) : MU l l a a := ⟨List.Perm.refl _, fun x => by repeat' split <;> first | rfl | (exfalso; omega) | (congr 1)⟩
theorem MU.step {l r : List Cand} {a k : Nat} (h : MU l r a k) (h1 : a ≤ k) (h2 : k + 1 < l.length) : MU l (sw r k (k + 1)) a (k + 1) := by
  have rl := h.perm.length_eq
  refine ⟨(sw_perm (by omega) (by omega)).trans h.perm, fun x => ?_⟩
  rw [F_sw (by omega) (by omega), h.at_ k, h.at_ (k + 1), h.at_ x]
  repeat' split
  all_goals first | rfl | (exfalso; omega) | (congr 1; omega)
/-- Row m has gone down to k. -/
structure MD (l r : List Cand) (m k : Nat) : Prop where
  perm : r.Perm l
  at_ : ∀ x, F r x = if k < x ∧ x ≤ m then F l (x - 1) else if x = k then F l m else F l x
theorem MD.start (l : List Cand) (m : Nat) : MD l l m m := ⟨List.Perm.refl _, fun x => by repeat' split <;> first | rfl | (exfalso; omega) | (congr 1)⟩
theorem MD.step {l r : List Cand} {m k : Nat} (h : MD l r m (k + 1)) (h1 : k + 1 ≤ m) (h2 : m < l.length) : MD l (sw r (k + 1) k) m k := by
  have rl := h.perm.length_eq
  refine ⟨(sw_perm (by omega) (by omega)).trans h.perm, fun x => ?_⟩
  rw [F_sw (by omega) (by omega), h.at_ k, h.at_ (k + 1), h.at_ x]
  repeat' split
  all_goals first | rfl | (exfalso; omega) | (congr 1; omega)
theorem merge_lo {l r : List Cand} {a b i : Nat} (hs : Srt l (a + 1) b) (h1 : a + 1 ≤ i) (h2 : i ≤ b) (hlo : ∀ x, a + 1 ≤ x → x < i → Prec (F l x) (F l a)) (hhi : ∀ x, i ≤ x → x < b → Prec (F l a) (F l x)) (hm : MU l r a (i - 1)) : SP l r a b ∧ Srt r a b := by
  refine ⟨⟨hm.perm, fun x hx => by rw [hm.at_, if_neg (by omega), if_neg (by omega)]⟩, fun x y h3 h4 h5 => ?_⟩
  rw [hm.at_ x, hm.at_ y]
  repeat' split
  all_goals first
    | (exfalso; omega)
    | exact hs _ _ (by omega) (by omega) (by omega)
    | exact hlo _ (by omega) (by omega)
    | exact hhi _ (by omega) (by omega)
    | exact (hlo _ (by omega) (by omega)).trans (hhi _ (by omega) (by omega))
theorem merge_hi {l r : List Cand} {a m i : Nat} (hs : Srt l a m) (h1 : a ≤ i) (h2 : i ≤ m) (hlo : ∀ x, a ≤ x → x < i → Prec (F l x) (F l m)) (hhi : ∀ x, i ≤ x → x < m → Prec (F l m) (F l x)) (hm : MD l r m i) : SP l r a (m + 1) ∧ Srt r a (m + 1) := by
  refine ⟨⟨hm.perm, fun x hx => by rw [hm.at_, if_neg (by omega), if_neg (by omega)]⟩, fun x y h3 h4 h5 => ?_⟩
  rw [hm.at_ x, hm.at_ y]
  repeat' split
  all_goals first
    | (exfalso; omega)
    | exact hs _ _ (by omega) (by omega) (by omega)
    | exact hlo _ (by omega) (by omega)
    | exact hhi _ (by omega) (by omega)
    | exact (hlo _ (by omega) (by omega)).trans (hhi _ (by omega) (by omega))
/-- The binary search's outcome: s, between the bounds. -/
structure SE (l : List Cand) (a m b mid s : Nat) : Prop where
  s1 : a ≤ s
  s2 : s ≤ m
  e1 : mid ≤ b
  sum : s ≤ mid
  eb : mid + m - s ≤ b
  lo : a < s → mid + m - s < b → Prec (F l (s - 1)) (F l (mid + m - s))
  hi : s < m → s < mid → Prec (F l (mid + m - 1 - s)) (F l s)
theorem SE.cross {l : List Cand} {a m b mid s : Nat} (h : SE l a m b mid s) (ha : Srt l a m) (hb : Srt l m b) : (∀ x y, a ≤ x → x < s → mid + m - s ≤ y → y < b → Prec (F l x) (F l y)) ∧ (∀ x y, m ≤ x → x < mid + m - s → s ≤ y → y < m → Prec (F l x) (F l y)) := by
  obtain ⟨s1, s2, e1, sum, eb, lo, hi⟩ := h
  refine ⟨fun x y c1 c2 c3 c4 => ?_, fun x y c1 c2 c3 c4 => ?_⟩
  · have L := lo (by omega) (by omega)
    have A : x = s - 1 ∨ Prec (F l x) (F l (s - 1)) := by
      rcases Nat.lt_or_ge x (s - 1) with t | t
      · exact .inr (ha _ _ c1 t (by omega))
      · exact .inl (by omega)
    have B : y = mid + m - s ∨ Prec (F l (mid + m - s)) (F l y) := by
      rcases Nat.lt_or_ge (mid + m - s) y with t | t
      · exact .inr (hb _ _ (by omega) t c4)
      · exact .inl (by omega)
    rcases A with rfl | A <;> rcases B with rfl | B
    · exact L
    · exact L.trans B
    · exact A.trans L
    · exact (A.trans L).trans B
  · have L := hi (by omega) (by omega)
    have A : x = mid + m - 1 - s ∨ Prec (F l x) (F l (mid + m - 1 - s)) := by
      rcases Nat.lt_or_ge x (mid + m - 1 - s) with t | t
      · exact .inr (hb _ _ c1 t (by omega))
      · exact .inl (by omega)
    have B : y = s ∨ Prec (F l s) (F l y) := by
      rcases Nat.lt_or_ge s y with t | t
      · exact .inr (ha _ _ (by omega) t c4)
      · exact .inl (by omega)
    rcases A with rfl | A <;> rcases B with rfl | B
    · exact L
    · exact L.trans B
    · exact A.trans L
    · exact (A.trans L).trans B
theorem RO.idle {l : List Cand} {s m e : Nat} (h : s = m ∨ e = m) (h1 : s ≤ m) (h2 : m ≤ e) : RO l l s m e := ⟨List.Perm.refl _, fun _ _ => rfl, fun x c1 c2 => by
  unfold RT
  split
  · congr 1; omega
  · congr 1; omega⟩
/-- Behind the rotation: two halves, each of two sorted parts, all of the first ahead of all of the second. -/
structure HV (l r : List Cand) (a b mid s e : Nat) : Prop where
  sp : SP l r a b
  p1 : Srt r a s
  p2 : Srt r s mid
  p3 : Srt r mid e
  p4 : Srt r e b
  cross : ∀ x y, a ≤ x → x < mid → mid ≤ y → y < b → Prec (F r x) (F r y)
theorem RO.halves {l r : List Cand} {a m b mid s : Nat} (h : SE l a m b mid s) (ha : Srt l a m) (hb : Srt l m b) (hr : RO l r s m (mid + m - s)) : HV l r a b mid s (mid + m - s) := by
  obtain ⟨C1, C2⟩ := h.cross ha hb
  obtain ⟨s1, s2, e1, sum, eb, _, _⟩ := h
  have A1 : ∀ x, x < s → F r x = F l x := fun x c => hr.out x (.inl c)
  have A2 : ∀ x, s ≤ x → x < mid → F r x = F l (m + (x - s)) := fun x c1 c2 => by rw [hr.at_ x c1 (by omega)]; unfold RT; rw [if_pos (by omega)]
  have A3 : ∀ x, mid ≤ x → x < mid + m - s → F r x = F l (x - (mid - s)) := fun x c1 c2 => by rw [hr.at_ x (by omega) c2]; unfold RT; rw [if_neg (by omega)]; congr 1; omega
  have A4 : ∀ x, mid + m - s ≤ x → F r x = F l x := fun x c => hr.out x (.inr c)
  refine ⟨⟨hr.perm, fun x c => hr.out x (by omega)⟩, fun x y c1 c2 c3 => ?_, fun x y c1 c2 c3 => ?_, fun x y c1 c2 c3 => ?_, fun x y c1 c2 c3 => ?_, fun x y c1 c2 c3 c4 => ?_⟩
  · rw [A1 x (by omega), A1 y c3]; exact ha _ _ c1 c2 (by omega)
  · rw [A2 x c1 (by omega), A2 y (by omega) c3]; exact hb _ _ (by omega) (by omega) (by omega)
  · rw [A3 x c1 (by omega), A3 y (by omega) c3]; exact ha _ _ (by omega) (by omega) (by omega)
  · rw [A4 x c1, A4 y (by omega)]; exact hb _ _ (by omega) c2 c3
  · rcases Nat.lt_or_ge x s with t | t <;> rcases Nat.lt_or_ge y (mid + m - s) with u | u
    · rw [A1 x t, A3 y c3 u]; exact ha _ _ c1 (by omega) (by omega)
    · rw [A1 x t, A4 y u]; exact C1 _ _ c1 t u c4
    · rw [A2 x t c2, A3 y c3 u]; exact C2 _ _ (by omega) (by omega) (by omega) (by omega)
    · rw [A2 x t c2, A4 y u]; exact hb _ _ (by omega) (by omega) c4
theorem HV.first {l r : List Cand} {a b mid s e : Nat} (h : HV l r a b mid s e) (hn : ¬ (a < s ∧ s < mid)) (h1 : a ≤ s) (h2 : s ≤ mid) : SP r r a mid ∧ Srt r a mid := by
  refine ⟨SP.refl _ _ _, ?_⟩
  by_cases c : a < s
  · obtain rfl : s = mid := by omega
    exact h.p1
  · obtain rfl : s = a := by omega
    exact h.p2
theorem HV.second {l r r2 : List Cand} {a b mid s e : Nat} (h : HV l r a b mid s e) (h2 : SP r r2 a mid) : Srt r2 mid e ∧ Srt r2 e b ∨ e < mid := by
  rcases Nat.lt_or_ge e mid with t | t
  · exact .inr t
  · exact .inl ⟨h.p3.same fun x c1 c2 => h2.out x (.inr c1), h.p4.same fun x c1 c2 => h2.out x (.inr (by omega))⟩
theorem HV.second2 {r2 : List Cand} {b mid e : Nat} (h : Srt r2 mid e ∧ Srt r2 e b) (hn : ¬ (mid < e ∧ e < b)) (h1 : mid ≤ e) (h2 : e ≤ b) : SP r2 r2 mid b ∧ Srt r2 mid b := by
  refine ⟨SP.refl _ _ _, ?_⟩
  by_cases c : mid < e
  · obtain rfl : e = b := by omega
    exact h.1
  · obtain rfl : e = mid := by omega
    exact h.2
theorem HV.final {l r r2 r3 : List Cand} {a b mid s e : Nat} (h : HV l r a b mid s e) (ht : Tot l) (hb : b ≤ l.length) (ham : a ≤ mid) (hmb : mid ≤ b) (h2 : SP r r2 a mid ∧ Srt r2 a mid) (h3 : SP r2 r3 mid b ∧ Srt r3 mid b) : SP l r3 a b ∧ Srt r3 a b := by
  obtain ⟨s2, t2⟩ := h2
  obtain ⟨s3, t3⟩ := h3
  have hr := ht.perm h.sp.perm
  have hr2 := hr.perm s2.perm
  have l1 := h.sp.len
  have l2 := s2.len
  refine ⟨(h.sp.trans (s2.mono (Nat.le_refl _) hmb)).trans (s3.mono ham (Nat.le_refl _)), fun x y c1 c2 c3 => ?_⟩
  rcases Nat.lt_or_ge y mid with t | t
  · rw [s3.out x (.inl (by omega)), s3.out y (.inl t)]; exact t2 _ _ c1 c2 t
  · rcases Nat.lt_or_ge x mid with u | u
    · rw [s3.out x (.inl u)]
      obtain ⟨x', x1, x2, ex⟩ := s2.mem hr (i := x) ⟨c1, u⟩ (by omega)
      obtain ⟨y', y1, y2, ey⟩ := s3.mem hr2 (i := y) ⟨t, c3⟩ (by omega)
      rw [ex, ey, s2.out y' (.inr y1)]
      exact h.cross _ _ x1 x2 y1 y2
    · exact t3 _ _ u c2 c3
end Go.Proofs.YtdgaflcnigljlaaGreatDoor
/-
  Contracts of package sort at rows of candidates, through its interface: merging in place. No further condition.
-/
namespace Go.Proofs.YtdgaflcnigljlaaGreatDoor
open Go.RowKit Go.Proofs Go.Proofs.YtdgaflcnigljlaaGreatDoorW.PrintWords
set_option linter.unusedVariables false
set_option maxRecDepth 20000 in
set_option maxHeartbeats 1000000 in
theorem sym_lo (l : List Cand) (base g cap n : Nat) (w0 w : World) (hS : Hid (CoBox w0 w base g cap n l)) (ht : Hid (Tot l)) (a m b : Nat) (h1 : m = a + 1) (h2 : m < b) (h4 : b ≤ l.length) (h3 : l.length ≤ 1000) (hs : Hid (Srt l m b)) :
    Calls Tryz.prog 206 #[.iface 186 (.slice (some ⟨g, 0, none⟩) n cap), .int .i64 a, .int .i64 m, .int .i64 b] w fun e w' => ∃ l', (e = .returned (.tuple #[]) ∧ CoBox w0 w' base g cap n l') ∧ SP l l' a b ∧ Srt l' a b := by
  have hm1 := mLess (.slice (some ⟨g, 0, none⟩) n cap)
  have hm2 := mSwap (.slice (some ⟨g, 0, none⟩) n cap)
  have e1 : (m : Int) - (a : Int) = 1 := by omega
  have H1 := Lib.hid h1
  clear h1
  go_enter Tryz.func206, Tryz.ntmps206
  go_wp2_with fail
  go_loopw [8, 9] (fun i j wr => ∃ (p q : Nat), m ≤ p ∧ p ≤ q ∧ q ≤ b ∧ i = .int .i64 p ∧ j = .int .i64 q ∧ Hid (CoBox w0 wr base g cap n l) ∧ Hid ((∀ x, m ≤ x → x < p → Prec (F l x) (F l a)) ∧ ∀ x, q ≤ x → x < b → Prec (F l a) (F l x))) (fun i j _ => (intOf j).toNat - (intOf i).toNat)
  case atStart => exact ⟨m, b, Nat.le_refl _, by omega, Nat.le_refl _, rfl, rfl, hS, Lib.hid ⟨fun x c1 c2 => by omega, fun x c1 c2 => by omega⟩⟩
  case round =>
    obtain ⟨p, q, p1, p2, p3, rfl, rfl, HS, HQ⟩ := hrel
    by_cases hlt : p < q
    · have t1 : decide ((p : Int) < q) = true := by simp; omega
      obtain ⟨h, hh⟩ : ∃ h, (p + q) / 2 = h := ⟨_, rfl⟩
      have h0 : ((p : Int) + (q : Int)) / 2 = (h : Int) := by omega
      have k1 : p ≤ h := by omega
      have k2 : h < q := by omega
      have k3 : h < l.length := by omega
      have k4 : a < l.length := by omega
      clear hh
      by_cases hp : Prec (F l h) (F l a)
      · have tp : decide (Prec (F l h) (F l a)) = true := by simp [hp]
        have HP := Lib.hid (show (∀ x, m ≤ x → x < h + 1 → Prec (F l x) (F l a)) ∧ ∀ x, q ≤ x → x < b → Prec (F l a) (F l x) from ⟨fun x c1 c2 => by
          by_cases e : x = h
          · subst e; exact hp
          · exact (hs.out x h c1 (by omega) (by omega)).trans hp, HQ.out.2⟩)
        clear hp
        go_wp2_with (first | (go_at_call 290; with_reducible refine (lessF_c l base g cap n w0 _ HS h a k3 k4).mono ?_; rintro e w3 ⟨rfl, hw⟩; replace HS := Lib.hid (HS.out.below hw); clear hw))
        exact ⟨⟨h + 1, q, by omega, by omega, p3, by go_num, rfl, HS, HP⟩, by simp [intOf]; omega⟩
      · have tp : decide (Prec (F l h) (F l a)) = false := by simp [hp]
        have HP := Lib.hid (show (∀ x, m ≤ x → x < p → Prec (F l x) (F l a)) ∧ ∀ x, h ≤ x → x < b → Prec (F l a) (F l x) from ⟨HQ.out.1, fun x c1 c2 => by
          have P := ht.out.not k3 k4 (by have := H1.out; omega) hp
          by_cases e : x = h
          · subst e; exact P
          · exact P.trans (hs.out h x (by omega) (by omega) (by omega))⟩)
        clear hp
        go_wp2_with (first | (go_at_call 290; with_reducible refine (lessF_c l base g cap n w0 _ HS h a k3 k4).mono ?_; rintro e w3 ⟨rfl, hw⟩; replace HS := Lib.hid (HS.out.below hw); clear hw))
        exact ⟨⟨p, h, by omega, by omega, by omega, rfl, rfl, HS, HP⟩, by simp [intOf]; omega⟩
    · obtain rfl : p = q := by omega
      go_wp2_with fail
      obtain ⟨z, hz⟩ : ∃ z, p - 1 = z := ⟨_, rfl⟩
      have hz2 := H1.out
      have z1 : (p : Int) - 1 = (z : Int) := by omega
      have z2 : a ≤ z := by omega
      have HZ := Lib.hid hz
      clear hz hz2
      go_loopw [11] (fun i wr => ∃ (k : Nat) (rows : List Cand), a ≤ k ∧ k ≤ z ∧ i = .int .i64 k ∧ Hid (CoBox w0 wr base g cap n rows) ∧ Hid (MU l rows a k)) (fun i _ => (p - intOf i).toNat)
      case atStart => exact ⟨a, l, Nat.le_refl _, z2, rfl, HS, Lib.hid (MU.start _ _)⟩
      case round =>
        clear HS
        obtain ⟨k, rows, k1, k2, rfl, HS, HM⟩ := hrel
        have rl := HM.out.perm.length_eq
        have zz := HZ.out
        by_cases hk : k < z
        · have t1 : decide ((k : Int) < (z : Int)) = true := by simp; omega
          obtain ⟨k', hk'⟩ : ∃ k', k + 1 = k' := ⟨_, rfl⟩
          have e2 : (k : Int) + 1 = (k' : Int) := by omega
          have b1 : k < rows.length := by omega
          have b2 : k' < rows.length := by omega
          have b3 : k ≠ k' := by omega
          have HP := Lib.hid (show MU l (sw rows k k') a k' by subst hk'; exact HM.out.step k1 (by omega))
          have b4 : a ≤ k' ∧ k' ≤ z := by omega
          clear hk'
          go_wp2_with (first | (go_at_call 291; with_reducible refine (swapF_c rows base g cap n w0 _ HS k k' b1 b2 b3).mono ?_; rintro e w4 ⟨rfl, hw⟩; have HS2 := Lib.hid hw; clear hw))
          exact ⟨⟨k', _, b4.1, b4.2, rfl, HS2, HP⟩, by simp [intOf]; omega⟩
        · obtain rfl : k = z := by omega
          have t1 : decide ((k : Int) < (k : Int)) = false := by simp
          have HP := Lib.hid (show SP l rows a b ∧ Srt rows a b from by
            have := H1.out; have hz := HZ.out; subst this
            exact merge_lo hs.out p1 p3 (fun x => HQ.out.1 x) (fun x => HQ.out.2 x) (by rw [hz]; exact HM.out))
          go_wp2_with fail
          refine bodyPost_ret (results_none rfl _ _ _) rfl ?_
          exact ⟨rows, ⟨rfl, HS.out⟩, HP.out.1, HP.out.2⟩
set_option maxRecDepth 20000 in
set_option maxHeartbeats 1000000 in
theorem sym_hi (l : List Cand) (base g cap n : Nat) (w0 w : World) (hS : Hid (CoBox w0 w base g cap n l)) (ht : Hid (Tot l)) (a m b : Nat) (h1 : a + 1 < m) (h2 : b = m + 1) (h4 : b ≤ l.length) (h3 : l.length ≤ 1000) (hs : Hid (Srt l a m)) :
    Calls Tryz.prog 206 #[.iface 186 (.slice (some ⟨g, 0, none⟩) n cap), .int .i64 a, .int .i64 m, .int .i64 b] w fun e w' => ∃ l', (e = .returned (.tuple #[]) ∧ CoBox w0 w' base g cap n l') ∧ SP l l' a b ∧ Srt l' a b := by
  have hm1 := mLess (.slice (some ⟨g, 0, none⟩) n cap)
  have hm2 := mSwap (.slice (some ⟨g, 0, none⟩) n cap)
  obtain ⟨d, hd⟩ : ∃ d, m - a = d := ⟨_, rfl⟩
  have d1 : (m : Int) - (a : Int) = (d : Int) := by omega
  have d2 : ((d : Int) == 1) = false := by simp; omega
  have e1 : (b : Int) - (m : Int) = 1 := by omega
  have H1 := Lib.hid h2
  have m4 : m < l.length := by omega
  clear h2 hd
  go_enter Tryz.func206, Tryz.ntmps206
  go_wp2_with fail
  go_loopw [12, 13] (fun i j wr => ∃ (p q : Nat), a ≤ p ∧ p ≤ q ∧ q ≤ m ∧ i = .int .i64 p ∧ j = .int .i64 q ∧ Hid (CoBox w0 wr base g cap n l) ∧ Hid ((∀ x, a ≤ x → x < p → Prec (F l x) (F l m)) ∧ ∀ x, q ≤ x → x < m → Prec (F l m) (F l x))) (fun i j _ => (intOf j).toNat - (intOf i).toNat)
  case atStart => exact ⟨a, m, Nat.le_refl _, by omega, Nat.le_refl _, rfl, rfl, hS, Lib.hid ⟨fun x c1 c2 => by omega, fun x c1 c2 => by omega⟩⟩
  case round =>
    obtain ⟨p, q, p1, p2, p3, rfl, rfl, HS, HQ⟩ := hrel
    by_cases hlt : p < q
    · have t1 : decide ((p : Int) < q) = true := by simp; omega
      obtain ⟨h, hh⟩ : ∃ h, (p + q) / 2 = h := ⟨_, rfl⟩
      have h0 : ((p : Int) + (q : Int)) / 2 = (h : Int) := by omega
      have k1 : p ≤ h := by omega
      have k2 : h < q := by omega
      have k3 : h < l.length := by omega
      clear hh
      by_cases hp : Prec (F l m) (F l h)
      · have tp : decide (Prec (F l m) (F l h)) = true := by simp [hp]
        have HP := Lib.hid (show (∀ x, a ≤ x → x < p → Prec (F l x) (F l m)) ∧ ∀ x, h ≤ x → x < m → Prec (F l m) (F l x) from ⟨HQ.out.1, fun x c1 c2 => by
          by_cases e : x = h
          · subst e; exact hp
          · exact hp.trans (hs.out h x (by omega) (by omega) c2)⟩)
        clear hp
        go_wp2_with (first | (go_at_call 290; with_reducible refine (lessF_c l base g cap n w0 _ HS m h m4 k3).mono ?_; rintro e w3 ⟨rfl, hw⟩; replace HS := Lib.hid (HS.out.below hw); clear hw))
        exact ⟨⟨p, h, by omega, by omega, by omega, rfl, rfl, HS, HP⟩, by simp [intOf]; omega⟩
      · have tp : decide (Prec (F l m) (F l h)) = false := by simp [hp]
        have HP := Lib.hid (show (∀ x, a ≤ x → x < h + 1 → Prec (F l x) (F l m)) ∧ ∀ x, q ≤ x → x < m → Prec (F l m) (F l x) from ⟨fun x c1 c2 => by
          have P := ht.out.not m4 k3 (by omega) hp
          by_cases e : x = h
          · subst e; exact P
          · exact (hs.out x h c1 (by omega) (by omega)).trans P, HQ.out.2⟩)
        clear hp
        go_wp2_with (first | (go_at_call 290; with_reducible refine (lessF_c l base g cap n w0 _ HS m h m4 k3).mono ?_; rintro e w3 ⟨rfl, hw⟩; replace HS := Lib.hid (HS.out.below hw); clear hw))
        exact ⟨⟨h + 1, q, by omega, by omega, p3, by go_num, rfl, HS, HP⟩, by simp [intOf]; omega⟩
    · obtain rfl : p = q := by omega
      go_wp2_with fail
      go_loopw [15] (fun i wr => ∃ (k : Nat) (rows : List Cand), p ≤ k ∧ k ≤ m ∧ i = .int .i64 k ∧ Hid (CoBox w0 wr base g cap n rows) ∧ Hid (MD l rows m k)) (fun i _ => (intOf i).toNat)
      case atStart => exact ⟨m, l, p3, Nat.le_refl _, rfl, HS, Lib.hid (MD.start _ _)⟩
      case round =>
        clear HS
        obtain ⟨k, rows, k1, k2, rfl, HS, HM⟩ := hrel
        have rl := HM.out.perm.length_eq
        by_cases hk : p < k
        · have t1 : decide ((p : Int) < (k : Int)) = true := by simp; omega
          obtain ⟨k', hk'⟩ : ∃ k', k - 1 = k' := ⟨_, rfl⟩
          have e2 : (k : Int) - 1 = (k' : Int) := by omega
          have b1 : k < rows.length := by omega
          have b2 : k' < rows.length := by omega
          have b3 : k ≠ k' := by omega
          have HP := Lib.hid (show MD l (sw rows k k') m k' by
            obtain rfl : k = k' + 1 := by omega
            exact HM.out.step k2 m4)
          have b4 : p ≤ k' ∧ k' ≤ m ∧ k' < k := by omega
          clear hk'
          go_wp2_with (first | (go_at_call 291; with_reducible refine (swapF_c rows base g cap n w0 _ HS k k' b1 b2 b3).mono ?_; rintro e w4 ⟨rfl, hw⟩; have HS2 := Lib.hid hw; clear hw))
          exact ⟨⟨k', _, b4.1, b4.2.1, rfl, HS2, HP⟩, by simp [intOf]; omega⟩
        · obtain rfl : k = p := by omega
          have t1 : decide ((k : Int) < (k : Int)) = false := by simp
          have HP := Lib.hid (show SP l rows a b ∧ Srt rows a b from by
            have := H1.out; subst this
            exact merge_hi hs.out p1 p3 (fun x => HQ.out.1 x) (fun x => HQ.out.2 x) HM.out)
          go_wp2_with fail
          refine bodyPost_ret (results_none rfl _ _ _) rfl ?_
          exact ⟨rows, ⟨rfl, HS.out⟩, HP.out.1, HP.out.2⟩
end Go.Proofs.YtdgaflcnigljlaaGreatDoor
/-
  Contracts of reference 08: the position of a day of a common year, and the labels that it bears. No further condition.
-/
namespace Go.Proofs.YtdgaflcnigljlaaGreatDoor
open Go.RowKit Go.Proofs.YtdgaflcnigljlaaGreatDoorW.PrintWords
set_option linter.unusedVariables false
def rTab : List Int := [101, 131, 301, 331, 429, 529, 627, 727, 825, 924, 1023, 1122, 1221]
/-- The first day of the k-th lunation, as the text writes it. -/
def rTb (k : Int) : Int := rd rTab k
/-- One day on. -/
def rStp (s : Int × Int) (m d : Int) : Int × Int := if s.1 < 12 ∧ rTb (s.1 + 1) = 100 * m + d then (s.1 + 1, 0) else (s.1, s.2 + 1)
/-- The lunation and the position ahead of the t-th day. -/
def rSt : Nat → Int × Int
  | 0 => (-1, 0)
  | t + 1 => rStp (rSt t) (vMon false t) (t - vCum false (vMon false t) + 1)
theorem rSt_in (t : Nat) : -1 ≤ (rSt t).1 ∧ (rSt t).1 ≤ 12 ∧ 0 ≤ (rSt t).2 ∧ (rSt t).2 ≤ t := by
  induction t with
  | zero => decide
  | succ t ih =>
    simp only [rSt]
    unfold rStp
    split
    · rename_i h; simp only; omega
    · simp only; omega
theorem rSt_at {t : Nat} {m d : Int} (h1 : 1 ≤ m) (h2 : m ≤ 12) (d1 : 1 ≤ d) (d2 : d ≤ vLen false m) (ht : (t : Int) = vCum false m + d - 1) : rSt (t + 1) = rStp (rSt t) m d := by
  have e := vCum_succ (b := false) h1 h2
  have hm : vMon false t = m := vMon_uniq h1 h2 (by omega) (by omega)
  simp only [rSt]
  rw [hm, show (t : Int) - vCum false m + 1 = d by omega]
theorem rSt_k {k : Int} (h0 : 0 ≤ k) (h : k ≤ 28) : rSt (67 + k.toNat) = if k ≤ 22 then (2, 7 + k) else (3, k - 23) := by
  have key : ∀ j : Fin 29, rSt (67 + j.val) = if (j.val : Int) ≤ 22 then (2, 7 + (j.val : Int)) else (3, (j.val : Int) - 23) := by decide +kernel
  have := key ⟨k.toNat, by omega⟩
  simp only at this
  rw [show ((k.toNat : Nat) : Int) = k by omega] at this
  exact this
@[reducible] def rCells : Array Value := #[.int .i64 101, .int .i64 131, .int .i64 301, .int .i64 331, .int .i64 429, .int .i64 529, .int .i64 627, .int .i64 727, .int .i64 825, .int .i64 924, .int .i64 1023, .int .i64 1122, .int .i64 1221]
theorem rreads (w : World) : ReadsInt (w.alloc (.cells rCells 3)) .i64 (some ⟨w.heap.size, 0, none⟩) 13 rTab := by
  refine ⟨rfl, by omega, fun _ => ⟨_, rfl, fun j hj => ?_⟩⟩
  have hb := Blk.new w rCells 3
  rcases (show j = 0 ∨ j = 1 ∨ j = 2 ∨ j = 3 ∨ j = 4 ∨ j = 5 ∨ j = 6 ∨ j = 7 ∨ j = 8 ∨ j = 9 ∨ j = 10 ∨ j = 11 ∨ j = 12 by omega) with rfl | rfl | rfl | rfl | rfl | rfl | rfl | rfl | rfl | rfl | rfl | rfl | rfl
  all_goals exact hb.cell _
theorem rstarts_c (w : World) : Calls Tryz.prog 211 #[] w fun e w' => e = .returned (.slice (some ⟨w.heap.size, 0, none⟩) 13 13) ∧ w' = w.alloc (.cells rCells 3) := by
  go_enter Tryz.func211, Tryz.ntmps211
  go_wp2
  go_ret
  exact ⟨rfl, rfl⟩
set_option maxRecDepth 20000 in
set_option maxHeartbeats 1000000 in
theorem rpos_c (m d : Int) (t : Nat) (w : World) (h1 : 1 ≤ d) (h2 : d ≤ vLen false m) (ht : Hid ((t : Int) = vCum false m + d - 1)) :
    Calls Tryz.prog 185 #[.int .i64 m, .int .i64 d] w fun e w' => e = .returned (.tuple #[.int .i64 (rSt (t + 1)).1, .int .i64 (rSt (t + 1)).2, .bool true]) ∧ Below w.heap.size w w' := by
  obtain ⟨m1, m2⟩ := exists_month h1 h2
  have EX := Lib.hid (show decide (1 ≤ d ∧ d ≤ vLen false m) = true by simp [h1, h2])
  have HB := Lib.hid ((Below.refl w.heap.size w).alloc (Nat.le_refl _) (.cells rCells 3))
  have HR := Lib.hid (rreads w)
  go_enter Tryz.func185, Tryz.ntmps185
  go_wp2_with (first | (go_at_call 44; with_reducible refine (rexists_c _ _ _).mono ?_; rintro e w1 ⟨rfl, rfl⟩; rw [EX.out]) | (go_at_call 211; with_reducible refine (rstarts_c _).mono ?_; rintro e w1 ⟨rfl, rfl⟩))
  generalize w.alloc (.cells rCells 3) = W at *
  go_loop [8, 9, 10] (fun l p i => ∃ (k : Int) (s : Nat), 1 ≤ k ∧ k ≤ m ∧ i = .int .i64 k ∧ Hid ((s : Int) = vCum false k) ∧ l = .int .i64 (rSt s).1 ∧ p = .int .i64 (rSt s).2) (fun _ _ i => (13 - intOf i).toNat)
  case atStart => exact ⟨1, 0, by omega, by omega, rfl, Lib.hid (by rw [vCum_one]; rfl), rfl, rfl⟩
  case round =>
    obtain ⟨k, s, k1, k2, rfl, hs, rfl, rfl⟩ := hrel
    go_wp2
    go_loop [8, 9, 11] (fun l p i => ∃ (j : Int) (s : Nat), 1 ≤ j ∧ j ≤ vLen false k + 1 ∧ (k = m → j ≤ d) ∧ i = .int .i64 j ∧ Hid ((s : Int) = vCum false k + j - 1) ∧ l = .int .i64 (rSt s).1 ∧ p = .int .i64 (rSt s).2) (fun _ _ i => (40 - intOf i).toNat)
    case atStart => exact ⟨1, s, by omega, by have := vLen_le false k; omega, fun h => by omega, rfl, Lib.hid (by have := hs.out; omega), rfl, rfl⟩
    case round =>
      obtain ⟨j, s, j1, j2, j3, rfl, hs2, rfl, rfl⟩ := hrel
      obtain ⟨b1, b2, b3, b4⟩ := rSt_in s
      obtain ⟨q1, q2⟩ := vCum_le (b := false) (m := k) (by omega)
      have q3 := vLen_le false k
      have q4 : lp false = 0 := by decide
      have s400 : (s : Int) ≤ 400 := by have := hs2.out; omega
      by_cases hj : j ≤ vLen false k
      · have NX := Lib.hid (rSt_at (t := s) k1 (by omega) j1 hj hs2.out)
        have J3 := Lib.hid j3
        clear j3 q1 q2 q4
        generalize hp : rSt s = p at *
        obtain ⟨p1, p2⟩ := p
        simp only at b1 b2 b3 b4 ⊢
        have W1 := Lib.hid (show rStp (p1, p2) k j = if p1 < 12 ∧ rTb (p1 + 1) = 100 * k + j then (p1 + 1, 0) else (p1, p2 + 1) from rfl)
        by_cases hA : p1 < 12
        · obtain ⟨ad, had, hc⟩ := HR.out.at_ (p1 + 1) (by omega) (by omega)
          cases had
          rw [add_plain] at hc
          (try simp only [Nat.zero_add] at hc)
          rw [show rd rTab (p1 + 1) = rTb (p1 + 1) from rfl] at hc
          generalize rTb (p1 + 1) = y at *
          by_cases e : y = 100 * k + j
          · have e4 : (y == 100 * k + j) = true := by simpa using e
            have HX := Lib.hid (show rSt (s + 1) = (p1 + 1, 0) by rw [NX.out, W1.out, if_pos ⟨hA, e⟩])
            clear e
            by_cases hm : k = m
            · subst hm
              by_cases hd : j = d
              · subst hd
                have TS := Lib.hid (show t = s by have := hs2.out; have := ht.out; omega)
                go_wp2_with ((go_at_call 35; with_reducible refine (rlength_c _ _ _).mono ?_; rintro e w1 ⟨rfl, rfl⟩))
                go_ret3
                exact ⟨by rw [TS.out, HX.out]; rfl, HB.out⟩
              · have e6 : (j == d) = false := by simpa using hd
                have J4 := J3.out rfl
                go_wp2_with ((go_at_call 35; with_reducible refine (rlength_c _ _ _).mono ?_; rintro e w1 ⟨rfl, rfl⟩))
                exact ⟨⟨j + 1, s + 1, by omega, by omega, fun _ => by omega, rfl, Lib.hid (by have := hs2.out; omega), by rw [HX.out], by rw [HX.out]⟩, by simp [intOf]; omega⟩
            · have e5 : (k == m) = false := by simpa using hm
              go_wp2_with ((go_at_call 35; with_reducible refine (rlength_c _ _ _).mono ?_; rintro e w1 ⟨rfl, rfl⟩))
              exact ⟨⟨j + 1, s + 1, by omega, by omega, fun h => absurd h hm, rfl, Lib.hid (by have := hs2.out; omega), by rw [HX.out], by rw [HX.out]⟩, by simp [intOf]; omega⟩
          · have e4 : (y == 100 * k + j) = false := by simpa using e
            have HX := Lib.hid (show rSt (s + 1) = (p1, p2 + 1) by rw [NX.out, W1.out, if_neg (fun h => e h.2)])
            clear e
            by_cases hm : k = m
            · subst hm
              by_cases hd : j = d
              · subst hd
                have TS := Lib.hid (show t = s by have := hs2.out; have := ht.out; omega)
                go_wp2_with ((go_at_call 35; with_reducible refine (rlength_c _ _ _).mono ?_; rintro e w1 ⟨rfl, rfl⟩))
                go_ret3
                exact ⟨by rw [TS.out, HX.out]; rfl, HB.out⟩
              · have e6 : (j == d) = false := by simpa using hd
                have J4 := J3.out rfl
                go_wp2_with ((go_at_call 35; with_reducible refine (rlength_c _ _ _).mono ?_; rintro e w1 ⟨rfl, rfl⟩))
                exact ⟨⟨j + 1, s + 1, by omega, by omega, fun _ => by omega, rfl, Lib.hid (by have := hs2.out; omega), by rw [HX.out], by rw [HX.out]⟩, by simp [intOf]; omega⟩
            · have e5 : (k == m) = false := by simpa using hm
              go_wp2_with ((go_at_call 35; with_reducible refine (rlength_c _ _ _).mono ?_; rintro e w1 ⟨rfl, rfl⟩))
              exact ⟨⟨j + 1, s + 1, by omega, by omega, fun h => absurd h hm, rfl, Lib.hid (by have := hs2.out; omega), by rw [HX.out], by rw [HX.out]⟩, by simp [intOf]; omega⟩
        · have HX := Lib.hid (show rSt (s + 1) = (p1, p2 + 1) by rw [NX.out, W1.out, if_neg (fun h => hA h.1)])
          by_cases hm : k = m
          · subst hm
            by_cases hd : j = d
            · subst hd
              have TS := Lib.hid (show t = s by have := hs2.out; have := ht.out; omega)
              go_wp2_with ((go_at_call 35; with_reducible refine (rlength_c _ _ _).mono ?_; rintro e w1 ⟨rfl, rfl⟩))
              go_ret3
              exact ⟨by rw [TS.out, HX.out]; rfl, HB.out⟩
            · have e6 : (j == d) = false := by simpa using hd
              have J4 := J3.out rfl
              go_wp2_with ((go_at_call 35; with_reducible refine (rlength_c _ _ _).mono ?_; rintro e w1 ⟨rfl, rfl⟩))
              exact ⟨⟨j + 1, s + 1, by omega, by omega, fun _ => by omega, rfl, Lib.hid (by have := hs2.out; omega), by rw [HX.out], by rw [HX.out]⟩, by simp [intOf]; omega⟩
          · have e5 : (k == m) = false := by simpa using hm
            go_wp2_with ((go_at_call 35; with_reducible refine (rlength_c _ _ _).mono ?_; rintro e w1 ⟨rfl, rfl⟩))
            exact ⟨⟨j + 1, s + 1, by omega, by omega, fun h => absurd h hm, rfl, Lib.hid (by have := hs2.out; omega), by rw [HX.out], by rw [HX.out]⟩, by simp [intOf]; omega⟩
      · have e3 : decide (j ≤ vLen false k) = false := by simpa using hj
        have NS := Lib.hid (show (s : Int) = vCum false (k + 1) by have := hs2.out; rw [vCum_succ k1 (by omega)]; omega)
        have KM : k ≠ m := fun h => by subst h; have := j3 rfl; omega
        go_wp2_with ((go_at_call 35; with_reducible refine (rlength_c _ _ _).mono ?_; rintro e w1 ⟨rfl, rfl⟩))
        exact ⟨⟨k + 1, s, by omega, by omega, rfl, NS, rfl, rfl⟩, by simp [intOf]; omega⟩
theorem mdK {k : Int} (h0 : 0 ≤ k) (h : k ≤ 28) : 1 ≤ dK k ∧ dK k ≤ vLen false (mK k) ∧ ((66 + k.toNat : Nat) : Int) = vCum false (mK k) + dK k - 1 := by
  have a : vLen false 3 = 31 := by decide
  have b : vLen false 4 = 30 := by decide
  have c : vCum false 3 = 59 := by decide
  have d : vCum false 4 = 90 := by decide
  unfold mK dK
  split
  · rw [a, c]; omega
  · rw [b, d]; omega
set_option maxHeartbeats 1000000 in
theorem rbears_c (k l : Int) (w : World) (h0 : 0 ≤ k) (h : k ≤ 28) (l1 : 1 ≤ l) (l2 : l ≤ 31) : Calls Tryz.prog 143 #[.int .i64 (mK k), .int .i64 (dK k), .int .i64 l] w fun e w' => e = .returned (.bool (bearsK k l)) ∧ Below w.heap.size w w' := by
  obtain ⟨d1, d2, d3⟩ := mdK h0 h
  have D3 := Lib.hid d3
  have R := rSt_k h0 h
  rw [show 67 + k.toNat = 66 + k.toNat + 1 by omega] at R
  have FF := Lib.hid (fun b : Bool => show (b = true ↔ bearsK k l = true) → Ending.returned (.bool b) = .returned (.bool (bearsK k l)) from fun h => ret_bool (Bool.eq_iff_iff.2 h))
  by_cases h1 : k ≤ 22
  · have RR := Lib.hid (show rSt (66 + k.toNat + 1) = (2, 7 + k) by rw [R, if_pos h1])
    clear R d3
    go_enter Tryz.func143, Tryz.ntmps143
    go_wp2_with ((go_at_call 185; with_reducible refine (rpos_c _ _ (66 + k.toNat) _ d1 d2 D3).mono ?_; rintro e w1 ⟨rfl, hw⟩; rw [RR.out]))
    all_goals
      go_ret
      exact ⟨FF.out _ (by unfold bearsK; simp; omega), hw⟩
  · have RR := Lib.hid (show rSt (66 + k.toNat + 1) = (3, k - 23) by rw [R, if_neg h1])
    clear R d3
    go_enter Tryz.func143, Tryz.ntmps143
    go_wp2_with ((go_at_call 185; with_reducible refine (rpos_c _ _ (66 + k.toNat) _ d1 d2 D3).mono ?_; rintro e w1 ⟨rfl, hw⟩; rw [RR.out]))
    all_goals
      go_ret
      exact ⟨FF.out _ (by unfold bearsK; simp; omega), hw⟩
end Go.Proofs.YtdgaflcnigljlaaGreatDoor
