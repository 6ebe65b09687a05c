/-
  Contracts and plain facts for the laws on the whole program: the parts below say each what they are. No further condition.
-/
import Derived.Test.YtdgaflcnigljlaaGreatDoorS18
set_option linter.unusedSimpArgs false
/-
  Contracts of package sort at rows of at most 32 candidates, through its interface: the stable sort; package precedence: the candidates in order. No further condition.
-/
namespace Go.Proofs.YtdgaflcnigljlaaGreatDoor
open Go.RowKit Go.Proofs Go.Proofs.YtdgaflcnigljlaaGreatDoorW.PrintWords
set_option linter.unusedVariables false
theorem isort_nil (l : List Cand) (base g cap n : Nat) (w0 w : World) (hS : Hid (CoBox w0 w base g cap n l)) (a : Nat) (h1 : a ≤ 1000) :
    Calls Tryz.prog 205 #[.iface 186 (.slice (some ⟨g, 0, none⟩) n cap), .int .i64 a, .int .i64 a] w fun e w' => e = .returned (.tuple #[]) ∧ w' = w := by
  go_enter Tryz.func205, Tryz.ntmps205
  go_wp2_with fail
  go_loopw [6] (fun i wr => i = .int .i64 (a + 1) ∧ wr = w) (fun i _ => 0)
  case atStart => exact ⟨by go_num, rfl⟩
  case round =>
    obtain ⟨rfl, rfl⟩ := hrel
    have tb : decide ((a : Int) + 1 < a) = false := by simp; omega
    go_wp2_with fail
    go_end0
    exact ⟨rfl, rfl⟩
set_option maxRecDepth 20000 in
set_option maxHeartbeats 1000000 in
theorem stable_small (l : List Cand) (base g cap n : Nat) (w0 w : World) (hS : Hid (CoBox w0 w base g cap n l)) (ht : Hid (Tot l)) (hn : Hid (n = l.length)) (h1 : 1 ≤ n) (h2 : n < 20) :
    Calls Tryz.prog 173 #[.iface 186 (.slice (some ⟨g, 0, none⟩) n cap), .int .i64 n] w (SymPost l w0 base g cap n 0 n) := by
  have t1 : decide ((20 : Int) ≤ (n : Int)) = false := by simp; omega
  have t2 : decide ((20 : Int) < (n : Int)) = false := by simp; omega
  have n1 : n ≤ l.length := by have := hn.out; omega
  have n2 : l.length ≤ 1000 := by have := hn.out; omega
  go_enter Tryz.func173, Tryz.ntmps173
  go_wp2_with fail
  go_loopw [5, 6] (fun a b wr => a = .int .i64 0 ∧ b = .int .i64 20 ∧ wr = w) (fun _ _ _ => 0)
  case atStart => exact ⟨rfl, rfl, rfl⟩
  case round =>
    obtain ⟨rfl, rfl, rfl⟩ := hrel
    have z0 : ((0 : Nat) : Int) = 0 := rfl
    have HC := Lib.hid (isort_c l base g cap n w0 wr hS ht 0 n n1 n2 h1)
    simp only [z0] at HC
    go_wp2_with (first | (go_at_call 205; with_reducible refine (HC.out).mono ?_; rintro e w4 ⟨l', ⟨rfl, hw⟩, hr⟩; have HS2 := Lib.hid hw; have HR := Lib.hid hr; clear hw hr))
    go_loopw [4] (fun a wr => a = .int .i64 20 ∧ wr = w4) (fun _ _ => 0)
    case atStart => exact ⟨rfl, rfl⟩
    case round =>
      obtain ⟨rfl, rfl⟩ := hrel
      go_wp2_with fail
      go_end0
      exact ⟨l', ⟨rfl, HS2.out⟩, HR.out⟩
set_option maxRecDepth 20000 in
set_option maxHeartbeats 1000000 in
theorem stable_big (l : List Cand) (base g cap n : Nat) (w0 w : World) (hS : Hid (CoBox w0 w base g cap n l)) (ht : Hid (Tot l)) (hn : Hid (n = l.length)) (h1 : 20 < n) (h2 : n ≤ 32) :
    Calls Tryz.prog 173 #[.iface 186 (.slice (some ⟨g, 0, none⟩) n cap), .int .i64 n] w (SymPost l w0 base g cap n 0 n) := by
  have t1 : decide ((20 : Int) ≤ (n : Int)) = true := by simp; omega
  have t2 : decide ((20 : Int) < (n : Int)) = true := by simp; omega
  have t3 : decide ((40 : Int) ≤ (n : Int)) = false := by simp; omega
  have t4 : decide ((40 : Int) < (n : Int)) = false := by simp; omega
  have n1 : n ≤ l.length := by have := hn.out; omega
  have n2 : l.length ≤ 1000 := by have := hn.out; omega
  have z0 : ((0 : Nat) : Int) = 0 := rfl
  have z20 : ((20 : Nat) : Int) = 20 := rfl
  go_enter Tryz.func173, Tryz.ntmps173
  go_wp2_with fail
  go_loopw [5, 6] (fun a b wr => (a = .int .i64 0 ∧ b = .int .i64 20 ∧ wr = w) ∨ (a = .int .i64 20 ∧ b = .int .i64 40 ∧ ∃ r1, Hid (CoBox w0 wr base g cap n r1) ∧ Hid (SP l r1 0 20 ∧ Srt r1 0 20))) (fun a _ _ => (20 - intOf a).toNat)
  case atStart => exact .inl ⟨rfl, rfl, rfl⟩
  case round =>
    rcases hrel with ⟨rfl, rfl, rfl⟩ | ⟨rfl, rfl, r1, HS1, HR1⟩
    · have HC := Lib.hid (isort_c l base g cap n w0 wr hS ht 0 20 (by omega) n2 (by omega))
      simp only [z0, z20] at HC
      go_wp2_with (first | (go_at_call 205; with_reducible refine (HC.out).mono ?_; rintro e w4 ⟨l', ⟨rfl, hw⟩, hr⟩; have HS2 := Lib.hid hw; have HR := Lib.hid hr; clear hw hr))
      exact ⟨.inr ⟨rfl, rfl, l', HS2, HR⟩, by simp [intOf]⟩
    · have l1 := HR1.out.1.len
      have HC := Lib.hid (isort_c r1 base g cap n w0 wr HS1 (Lib.hid (ht.out.perm HR1.out.1.perm)) 20 n (by omega) (by omega) (by omega))
      simp only [z0, z20] at HC
      go_wp2_with (first | (go_at_call 205; with_reducible refine (HC.out).mono ?_; rintro e w4 ⟨r2, ⟨rfl, hw⟩, hr⟩; have HS2 := Lib.hid hw; have HR2 := Lib.hid hr; clear hw hr))
      have l2 := HR2.out.1.len
      have HA : Hid (Srt r2 0 20) := Lib.hid (HR1.out.2.same fun i c1 c2 => HR2.out.1.out i (.inl c2))
      go_loopw [4] (fun a wr => (a = .int .i64 20 ∧ wr = w4) ∨ (a = .int .i64 40 ∧ ∃ r3, Hid (CoBox w0 wr base g cap n r3) ∧ Hid (SP r2 r3 0 n ∧ Srt r3 0 n))) (fun a _ => (60 - intOf a).toNat)
      case atStart => exact .inl ⟨rfl, rfl⟩
      case round =>
        rcases hrel with ⟨rfl, rfl⟩ | ⟨rfl, r3, HS3, HR3⟩
        · go_wp2_with fail
          go_loopw [5, 6] (fun a b wr' => a = .int .i64 0 ∧ b = .int .i64 40 ∧ wr' = wr) (fun _ _ _ => 0)
          case atStart => exact ⟨rfl, rfl, rfl⟩
          case round =>
            obtain ⟨rfl, rfl, rfl⟩ := hrel
            have HM := Lib.hid (sym_c base g cap n w0 n r2 _ HS2 (Lib.hid (ht.out.perm (HR2.out.1.perm.trans HR1.out.1.perm))) 0 20 n (by omega) (by omega) (by omega) (by omega) (by omega) HA (Lib.hid HR2.out.2))
            simp only [z0, z20] at HM
            go_wp2_with (first | (go_at_call 206; with_reducible refine (HM.out).mono ?_; rintro e w5 hpost; obtain ⟨r3, ⟨rfl, hw⟩, hr⟩ := hpost.get; clear hpost; have HS3 := Lib.hid hw; have HR3 := Lib.hid hr; clear hw hr))
            exact ⟨.inr ⟨rfl, r3, HS3, HR3⟩, by simp [intOf]⟩
        · go_wp2_with fail
          go_end0
          exact ⟨r3, ⟨rfl, HS3.out⟩, ((HR1.out.1.mono (Nat.le_refl _) (by omega)).trans (HR2.out.1.mono (by omega) (Nat.le_refl _))).trans HR3.out.1, HR3.out.2⟩
set_option maxRecDepth 20000 in
set_option maxHeartbeats 1000000 in
theorem stable_20 (l : List Cand) (base g cap : Nat) (w0 w : World) (hS : Hid (CoBox w0 w base g cap 20 l)) (ht : Hid (Tot l)) (hn : Hid (20 = l.length)) :
    Calls Tryz.prog 173 #[.iface 186 (.slice (some ⟨g, 0, none⟩) 20 cap), .int .i64 20] w (SymPost l w0 base g cap 20 0 20) := by
  have n1 : 20 ≤ l.length := by have := hn.out; omega
  have n2 : l.length ≤ 1000 := by have := hn.out; omega
  have z0 : ((0 : Nat) : Int) = 0 := rfl
  have z20 : ((20 : Nat) : Int) = 20 := rfl
  go_enter Tryz.func173, Tryz.ntmps173
  go_wp2_with fail
  go_loopw [5, 6] (fun a b wr => (a = .int .i64 0 ∧ b = .int .i64 20 ∧ wr = w) ∨ (a = .int .i64 20 ∧ b = .int .i64 40 ∧ ∃ r1, Hid (CoBox w0 wr base g cap 20 r1) ∧ Hid (SP l r1 0 20 ∧ Srt r1 0 20))) (fun a _ _ => (20 - intOf a).toNat)
  case atStart => exact .inl ⟨rfl, rfl, rfl⟩
  case round =>
    rcases hrel with ⟨rfl, rfl, rfl⟩ | ⟨rfl, rfl, r1, HS1, HR1⟩
    · have HC := Lib.hid (isort_c l base g cap 20 w0 wr hS ht 0 20 (by omega) n2 (by omega))
      simp only [z0, z20] at HC
      go_wp2_with (first | (go_at_call 205; with_reducible refine (HC.out).mono ?_; rintro e w4 ⟨l', ⟨rfl, hw⟩, hr⟩; have HS2 := Lib.hid hw; have HR := Lib.hid hr; clear hw hr))
      exact ⟨.inr ⟨rfl, rfl, l', HS2, HR⟩, by simp [intOf]⟩
    · have HC := Lib.hid (isort_nil r1 base g cap 20 w0 wr HS1 20 (by omega))
      simp only [z0, z20] at HC
      go_wp2_with (first | (go_at_call 205; with_reducible refine (HC.out).mono ?_; rintro e w4 ⟨rfl, hw⟩; rw [hw]; clear hw))
      go_loopw [4] (fun a wr' => a = .int .i64 20 ∧ wr' = wr) (fun _ _ => 0)
      case atStart => exact ⟨rfl, rfl⟩
      case round =>
        obtain ⟨rfl, rfl⟩ := hrel
        go_wp2_with fail
        go_end0
        exact ⟨r1, ⟨rfl, HS1.out⟩, HR1.out⟩
theorem stable_c (l : List Cand) (base g cap n : Nat) (w0 w : World) (hS : Hid (CoBox w0 w base g cap n l)) (ht : Hid (Tot l)) (hn : Hid (n = l.length)) (h1 : 1 ≤ n) (h2 : n ≤ 32) :
    Calls Tryz.prog 173 #[.iface 186 (.slice (some ⟨g, 0, none⟩) n cap), .int .i64 n] w (SymPost l w0 base g cap n 0 n) := by
  rcases Nat.lt_trichotomy n 20 with h | rfl | h
  · exact stable_small l base g cap n w0 w hS ht hn h1 h
  · exact stable_20 l base g cap w0 w hS ht hn
  · exact stable_big l base g cap n w0 w hS ht hn h h2
end Go.Proofs.YtdgaflcnigljlaaGreatDoor
/-
  Contracts of package precedence: candidates in order. At rows of at most 32 candidates no two of which are alike. No further condition.
-/
namespace Go.Proofs.YtdgaflcnigljlaaGreatDoor
open Go.RowKit Go.Proofs Go.Proofs.YtdgaflcnigljlaaGreatDoorW.PrintWords
set_option linter.unusedVariables false
theorem Stable_c (l : List Cand) (base g cap n : Nat) (w0 w : World) (hS : Hid (CoBox w0 w base g cap n l)) (ht : Hid (Tot l)) (hn : Hid (n = l.length)) (h1 : 1 ≤ n) (h2 : n ≤ 32) :
    Calls Tryz.prog 134 #[.iface 186 (.slice (some ⟨g, 0, none⟩) n cap)] w (SymPost l w0 base g cap n 0 n) := by
  have hm1 := mLen (.slice (some ⟨g, 0, none⟩) n cap)
  go_enter Tryz.func134, Tryz.ntmps134
  go_wp2_with (first | (go_at_call 289; with_reducible refine (len_c _ _ _ _).mono ?_; rintro e w1 ⟨rfl, rfl⟩) | (go_at_call 173; with_reducible refine (stable_c l base g cap n w0 _ hS ht hn h1 h2).mono ?_; rintro e w5 hpost; obtain ⟨r3, ⟨rfl, hw⟩, hr⟩ := hpost.get; clear hpost; have HS3 := Lib.hid hw; have HR3 := Lib.hid hr; clear hw hr))
  go_end0
  exact ⟨r3, ⟨rfl, HS3.out⟩, HR3.out⟩
/-- The order of precedence, weakly. -/
def leP (a b : Cand) : Bool := !decide (Prec b a)
def vSort (l : List Cand) : List Cand := l.mergeSort leP
theorem vSort_perm (l : List Cand) : (vSort l).Perm l := List.mergeSort_perm _ _
theorem vSort_ord {l : List Cand} (h : Tot l) : (vSort l).Pairwise Prec := by
  have h1 : (vSort l).Pairwise (fun a b => leP a b = true) := List.pairwise_mergeSort (fun a b c h g => by simp only [leP, Bool.not_eq_true', decide_eq_false_iff_not] at *; unfold Prec at *; omega) (fun a b => by simp only [leP, Bool.or_eq_true, Bool.not_eq_true', decide_eq_false_iff_not]; unfold Prec; omega) l
  have h2 := h.perm (vSort_perm l)
  exact (h1.and h2).imp fun {a b} ⟨p, q⟩ => by
    simp only [leP, Bool.not_eq_true', decide_eq_false_iff_not] at p
    exact q.resolve_right p
theorem vSort_uniq {l l' : List Cand} (hp : l'.Perm l) (ho : l'.Pairwise Prec) (ht : Tot l) : l' = vSort l :=
  List.Perm.eq_of_pairwise (le := Prec) (fun a b _ _ h g => absurd g h.asymm) ho (vSort_ord ht) (hp.trans (vSort_perm l).symm)
theorem srt_pairwise {l : List Cand} (h : Srt l 0 l.length) : l.Pairwise Prec := List.pairwise_iff_getElem.2 fun i j hi hj hij => by
  have := h i j (Nat.zero_le _) hij hj
  rw [← F_get hi, ← F_get hj] at this; exact this
theorem psort_c (l : List Cand) (A : Option Addr) (n c base : Nat) (w : World) (h : Hid (Own w base 115 4 (.slice A n c) (candRows l))) (ht : Hid (Tot l)) (hn : Hid (n = l.length)) (h1 : 1 ≤ n) (h2 : n ≤ 32) (hA : ∃ ad, A = some ad) :
    Calls Tryz.prog 93 #[.slice A n c] w fun e w' => ∃ g cap, e = .returned (.slice (some ⟨g, 0, none⟩) n cap) ∧ Own w' w.heap.size 115 4 (.slice (some ⟨g, 0, none⟩) n cap) (candRows (vSort l)) ∧ Below w.heap.size w w' := by
  go_enter Tryz.func93, Tryz.ntmps93
  go_wp2_with (first | (go_at_call 133; with_reducible refine (clone_c A n c base l w h (Lib.hid (by have := hn.out; omega)) (by omega) hA).mono ?_; rintro e w1 ⟨g, cap, rfl, ho, hb⟩; have HO := Lib.hid ho; have HB := Lib.hid hb; clear ho hb) | (go_at_call 134; with_reducible refine (Stable_c l w.heap.size g cap n w1 w1 (Lib.hid ⟨World.grownBy.refl _ _, HO.out⟩) ht hn h1 h2).mono ?_; rintro e w5 hpost; obtain ⟨r3, ⟨rfl, hw⟩, hr⟩ := hpost.get; clear hpost; have HS3 := Lib.hid hw; have HR3 := Lib.hid hr; clear hw hr))
  go_ret
  have e : r3 = vSort l := vSort_uniq HR3.out.1.perm (srt_pairwise (by rw [HR3.out.1.len, ← hn.out]; exact HR3.out.2)) ht.out
  subst e
  exact ⟨g, cap, rfl, HS3.out.own, HB.out.grown HS3.out.gr HB.out.size (fun k e => by cases e; exact (HO.out.block g rfl).1)⟩
theorem feaC_at {y d : Int} {p : Fea × Nat} {c : Cand} (h : feaC y d p = some c) : c.kind = 2 ∧ c.idx = p.2 := by
  unfold feaC at h
  split at h
  · cases h; exact ⟨rfl, rfl⟩
  · cases h
theorem prop_ord (C : Cat) (y : Int) (k : Nat) (d : Int) : (vPropL C y k d).Pairwise (fun a b => a.idx < b.idx) := by
  unfold vPropL
  rw [List.pairwise_filterMap]
  rw [List.pairwise_iff_getElem]
  intro i j hi hj hij a ha b hb
  simp only [List.getElem_zipIdx] at ha hb
  rw [(feaC_at ha).2, (feaC_at hb).2]
  simp; omega
theorem prop_kind {C : Cat} {y : Int} {k : Nat} {d : Int} {c : Cand} (h : c ∈ vPropL C y k d) : c.kind = 2 := by
  obtain ⟨p, _, hp⟩ := List.mem_filterMap.1 h
  exact (feaC_at hp).1
theorem cands_tot (C : Cat) (y d : Int) : Tot (vCands C y d) := by
  unfold vCands Tot
  refine List.pairwise_cons.2 ⟨fun b hb => ?_, ?_⟩
  · have h2 := prop_kind hb
    have h1 : (vTemp C y d).kind = 1 := rfl
    unfold Prec; omega
  · refine (prop_ord C y C.feas.length d).imp_of_mem fun {a b} ha hb h => ?_
    have h1 := prop_kind ha
    have h2 := prop_kind hb
    unfold Prec; omega
end Go.Proofs.YtdgaflcnigljlaaGreatDoor
