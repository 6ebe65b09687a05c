/-
  Contracts and plain facts for the laws on the whole program: the parts below say each what they are. No further condition.
-/
import Derived.Test.YtdgaflcnigljlaaGreatDoorS08
import Derived.Test.YtdgaflcnigljlaaGreatDoorS27
import Derived.Test.YtdgaflcnigljlaaGreatDoorRows
import Derived.Lib.LaidTab
set_option linter.unusedSimpArgs false
/-
  The row's list gives the tables: they lie in memory as the program text lays them. Plain facts on how laid arrays read.
-/
namespace Go.Proofs.YtdgaflcnigljlaaGreatDoor
open Go.RowKit Go.Proofs
set_option linter.unusedVariables false
/-- An array of strings that reads as a list of byte lists holds just these strings, cell for cell. -/
theorem cells_of_strs {H : Type} {enc : TypeId × Value → H} {P : Program} {w : World} {base : Nat} {sp : Nat → Bool} {held : Bool} {fuel : Nat} {t e : TypeId} {n : Nat} {cs : List Value} {ss : List (List UInt8)} {p : List MemPlace}
    (ht : P.underlying t = some (.array n e)) (he : P.underlying e = some .string) (hce : P.cellsOf e = 1) (hct : P.cellsOf t = n)
    (h : DataW.trod enc P w base sp held fuel t cs = some (.agg (ss.map fun s => .lit (.string s)), p)) : cs = ss.map fun s => Value.string ⟨s.toArray⟩ := by
  cases fuel with
  | zero => simp [DataW.trod] at h
  | succ fuel =>
    simp only [DataW.trod, ht, hce, hct, Nat.mul_one] at h
    split at h
    · rename_i hl
      obtain ⟨xs, hm, hx⟩ := Option.map_eq_some_iff.1 h
      have hxs : xs.map (·.1) = ss.map fun s => (DataW.lit (.string s) : DataW H) := by
        have := congrArg Prod.fst hx
        simpa using this
      have hxl : xs.length = n := by simpa using Lib.mapM_length hm
      have hzl : ss.length = n := by
        have := congrArg List.length hxs
        simp at this
        omega
      apply List.ext_getElem?
      intro i
      by_cases hi : i < n
      · obtain ⟨b, hb, hf⟩ := Lib.mapM_at hm i i (by simp [hi])
        obtain ⟨s, hc, rfl, _⟩ := DataW.trod_string he hf
        have h1 : cs[i]? = some (.string s) := by
          have := congrArg (·[0]?) hc
          simpa [List.getElem?_take, List.getElem?_drop] using this
        have h2 : (xs.map (·.1))[i]? = some (DataW.lit (.string s.data.toList) : DataW H) := by simp [hb]
        rw [hxs] at h2
        simp only [List.getElem?_map, Option.map_eq_some_iff, DataW.lit.injEq, Lit.string.injEq] at h2
        obtain ⟨z', hz', e'⟩ := h2
        simp [h1, hz', e']
      · rw [List.getElem?_eq_none (by omega), List.getElem?_eq_none (by simp; omega)]
    · cases h
theorem laid_tail {P : Program} {W : World} {x : String × DataW Unit} {r : List (String × DataW Unit)} (h : ∃ ps, DataW.LaidVars P W (x :: r) ps) : ∃ ps, DataW.LaidVars P W r ps := by
  obtain ⟨ps, g, t, cs, fuel, p, q, _, _, _, _, h, _⟩ := h
  exact ⟨q, h⟩
theorem laid_ints {P : Program} {W : World} {name : String} {k : IntKind} {zs : List Int} {rest : List (String × DataW Unit)} {g : Nat} {t e : TypeId} {n : Nat}
    (hg : P.globalNamed name = some g) (hty : (P.globals[g]?).map (·.type) = some t) (ht : P.underlying t = some (.array n e)) (he : P.underlying e = some (.int k)) (hce : P.cellsOf e = 1) (hct : P.cellsOf t = n)
    (h : ∃ ps, DataW.LaidVars P W ((name, Lib.tabData k zs) :: rest) ps) : Lib.TabIs P W name k zs := by
  obtain ⟨ps, g', t', cs, fuel, p, q, hg', ht', hvar, hd, _, _⟩ := h
  obtain rfl := Option.some.inj (hg.symm.trans hg')
  obtain rfl := Option.some.inj (hty.symm.trans ht')
  unfold Lib.TabIs
  rw [hvar, ← Lib.cells_of_tab ht he hce hct hd]
theorem laid_strs {P : Program} {W : World} {name : String} {ss : List (List UInt8)} {rest : List (String × DataW Unit)} {g : Nat} {t e : TypeId} {n : Nat}
    (hg : P.globalNamed name = some g) (hty : (P.globals[g]?).map (·.type) = some t) (ht : P.underlying t = some (.array n e)) (he : P.underlying e = some .string) (hce : P.cellsOf e = 1) (hct : P.cellsOf t = n)
    (h : ∃ ps, DataW.LaidVars P W ((name, .agg (ss.map fun s => .lit (.string s))) :: rest) ps) (i : Nat) : W.cell? ⟨g, i, none⟩ = (ss.map fun s => Value.string ⟨s.toArray⟩)[i]? := by
  obtain ⟨ps, g', t', cs, fuel, p, q, hg', ht', hvar, hd, _, _⟩ := h
  obtain rfl := Option.some.inj (hg.symm.trans hg')
  obtain rfl := Option.some.inj (hty.symm.trans ht')
  have e := cells_of_strs ht he hce hct hd
  have hv : W.var? P name = some cs.toList.toArray := hvar
  rw [e] at hv
  simpa using World.var?_cell hg hv i
def theLaid : List (String × DataW Unit) := [("math/bits.deBruijn32tab", Rows.laid_math_bits_deBruijn32tab), ("math/bits.deBruijn64tab", Rows.laid_math_bits_deBruijn64tab), ("internal/strconv.uint64pow10", Rows.laid_internal_strconv_uint64pow10), ("computus/julian.lengths", Rows.laid_computus_julian_lengths), ("computus/weekday.names", Rows.laid_computus_weekday_names), ("computus/label.lengths", Rows.laid_computus_label_lengths), ("computus/label.spans", Rows.laid_computus_label_spans), ("computus/cattext.policies", Rows.laid_computus_cattext_policies), ("computus/ordotext.kinds", Rows.laid_computus_ordotext_kinds)]
theorem g4 : (Tryz.prog).globalNamed "internal/strconv.uint64pow10" = some 4 ∧ ((Tryz.prog).globals[4]?).map (·.type) = some 306 ∧ (Tryz.prog).cellsOf 306 = 20 := ⟨by kernel_rfl, by kernel_rfl, by kernel_rfl⟩
theorem g8 : (Tryz.prog).globalNamed "computus/label.lengths" = some 8 ∧ ((Tryz.prog).globals[8]?).map (·.type) = some 301 ∧ (Tryz.prog).cellsOf 301 = 12 := ⟨by kernel_rfl, by kernel_rfl, by kernel_rfl⟩
theorem g9 : (Tryz.prog).globalNamed "computus/label.spans" = some 9 ∧ ((Tryz.prog).globals[9]?).map (·.type) = some 301 := ⟨by kernel_rfl, by kernel_rfl⟩
theorem g0 : (Tryz.prog).globalNamed "computus/cattext.policies" = some 0 ∧ ((Tryz.prog).globals[0]?).map (·.type) = some 136 ∧ (Tryz.prog).cellsOf 136 = 3 := ⟨by kernel_rfl, by kernel_rfl, by kernel_rfl⟩
theorem ce3 : (Tryz.prog).cellsOf 3 = 1 := by kernel_rfl
theorem ce9 : (Tryz.prog).cellsOf 9 = 1 := by kernel_rfl
theorem tabs_of_laid {W : World} (h : laidMetH Tryz.prog theLaid W) : Tabs W ∧ PowIn W := by
  have h' : laidMet Tryz.prog theLaid W := h
  obtain ⟨ps, h0, _⟩ := h'
  have l2 := laid_tail (laid_tail ⟨ps, h0⟩)
  have l5 := laid_tail (laid_tail (laid_tail l2))
  have l6 := laid_tail l5
  have l7 := laid_tail l6
  have P4 : Lib.TabIs Tryz.prog W "internal/strconv.uint64pow10" .u64 Lib.pow10Tab := laid_ints g4.1 g4.2.1 Tryz.underlying306 (by kernel_rfl) (by kernel_rfl) g4.2.2 l2
  have P8 : Lib.TabIs Tryz.prog W "computus/label.lengths" .i64 [31, 28, 31, 30, 31, 30, 31, 31, 30, 31, 30, 31] := laid_ints g8.1 g8.2.1 Tryz.underlying301 Tryz.underlying3 ce3 g8.2.2 l5
  have P9 : Lib.TabIs Tryz.prog W "computus/label.spans" .i64 [30, 29, 30, 29, 30, 29, 30, 29, 30, 29, 30, 29] := laid_ints g9.1 g9.2 Tryz.underlying301 Tryz.underlying3 ce3 g8.2.2 l6
  have P0 := laid_strs (ss := [ [116, 114, 97, 110, 115, 102, 101, 114], [99, 111, 109, 109, 101, 109, 111, 114, 97, 116, 101], [111, 109, 105, 116] ]) g0.1 g0.2.1 Tryz.underlying136 Tryz.underlying9 ce9 g0.2.2 l7
  have c4 := fun i hi => P4.cell g4.1 i hi
  have c8 := fun i hi => P8.cell g8.1 i hi
  have c9 := fun i hi => P9.cell g9.1 i hi
  have s9 := World.block_lt_of_cell? W _ (c9 0 (by decide))
  have len4 : Lib.pow10Tab.length = 20 := by kernel_rfl
  refine ⟨⟨s9, fun i v hv => ?_, fun i v hv => ?_, fun i v hv => ?_, fun i v hv => ?_⟩, ⟨P4, Nat.le_trans (by decide) s9⟩⟩
  · have hi : i < 12 := by have := (List.getElem?_eq_some_iff.1 hv).1; simpa [lensV] using this
    rw [c8 i hi]
    rw [show lensV = [31, 28, 31, 30, 31, 30, 31, 31, 30, 31, 30, 31].map (Value.int .i64) from rfl, List.getElem?_map] at hv
    obtain ⟨x, hx, rfl⟩ := Option.map_eq_some_iff.1 hv
    rw [List.getD_eq_getElem?_getD, hx]; rfl
  · have hi : i < 12 := by have := (List.getElem?_eq_some_iff.1 hv).1; simpa [spansV] using this
    rw [c9 i hi]
    rw [show spansV = [30, 29, 30, 29, 30, 29, 30, 29, 30, 29, 30, 29].map (Value.int .i64) from rfl, List.getElem?_map] at hv
    obtain ⟨x, hx, rfl⟩ := Option.map_eq_some_iff.1 hv
    rw [List.getD_eq_getElem?_getD, hx]; rfl
  · rw [P0 i]; exact hv
  · have hi : i < Lib.pow10Tab.length := by have := (List.getElem?_eq_some_iff.1 hv).1; rw [len4]; simpa [powsV] using this
    rw [c4 i hi]
    rw [show powsV = Lib.pow10Tab.map (Value.int .u64) from by kernel_rfl, List.getElem?_map] at hv
    obtain ⟨x, hx, rfl⟩ := Option.map_eq_some_iff.1 hv
    rw [List.getD_eq_getElem?_getD, hx]; rfl
end Go.Proofs.YtdgaflcnigljlaaGreatDoor
