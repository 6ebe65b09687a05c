/-
  The row's list gives the table of names: its seven cells lie in block 0 as the program text lays them. Plain facts on how a laid array of strings reads.
-/
import Derived.Test.YtckkllbnmnpafaaDoorRows
import Derived.Test.YtckkllbnmnpafaaDoorTab
import Derived.Lib.LaidTab
namespace Go.Proofs.YtckkllbnmnpafaaDoor
open Go.RowKit

/-- An array of strings that reads as a list of byte lists holds just these strings, cell for cell. -/
theorem cells_of_strs {H : Type} {enc : TypeId × Value → H} {P : Program} {w : World} {base : Nat} {sp : Nat → Bool} {held : Bool} {fuel : Nat} {t e : TypeId} {n : Nat} {cs : List Value} {ss : List (List UInt8)} {p : List MemPlace}
    (ht : P.underlying t = some (.array n e)) (he : P.underlying e = some .string) (hce : P.cellsOf e = 1) (hct : P.cellsOf t = n)
    (h : DataW.trod enc P w base sp held fuel t cs = some (.agg (ss.map fun s => .lit (.string s)), p)) : cs = ss.map fun s => Value.string ⟨s.toArray⟩ := by
  cases fuel with
  | zero => simp [DataW.trod] at h
  | succ fuel =>
    simp only [DataW.trod, ht, hce, hct, Nat.mul_one] at h
    split at h
    · rename_i hl
      obtain ⟨xs, hm, hx⟩ := Option.map_eq_some_iff.1 h
      have hxs : xs.map (·.1) = ss.map fun s => (DataW.lit (.string s) : DataW H) := by
        have := congrArg Prod.fst hx
        simpa using this
      have hxl : xs.length = n := by simpa using Lib.mapM_length hm
      have hzl : ss.length = n := by
        have := congrArg List.length hxs
        simp at this
        omega
      apply List.ext_getElem?
      intro i
      by_cases hi : i < n
      · obtain ⟨b, hb, hf⟩ := Lib.mapM_at hm i i (by simp [hi])
        obtain ⟨s, hc, rfl, _⟩ := DataW.trod_string he hf
        have h1 : cs[i]? = some (.string s) := by
          have := congrArg (·[0]?) hc
          simpa [List.getElem?_take, List.getElem?_drop] using this
        have h2 : (xs.map (·.1))[i]? = some (DataW.lit (.string s.data.toList) : DataW H) := by simp [hb]
        rw [hxs] at h2
        simp only [List.getElem?_map, Option.map_eq_some_iff, DataW.lit.injEq, Lit.string.injEq] at h2
        obtain ⟨z', hz', e'⟩ := h2
        simp [h1, hz', e']
      · rw [List.getElem?_eq_none (by omega), List.getElem?_eq_none (by simp; omega)]
    · cases h

theorem gNames : Tryd.prog.globalNamed "computus/weekday.names" = some 0 := by kernel_rfl
theorem gNamesType : (Tryd.prog.globals[0]?).map (·.type) = some 43 := by kernel_rfl
theorem cells43 : Tryd.prog.cellsOf 43 = 7 := by kernel_rfl
theorem cells9 : Tryd.prog.cellsOf 9 = 1 := by kernel_rfl

theorem namesIn_of_laid {W : World} (h : laidMetH Tryd.prog [("computus/weekday.names", Rows.laid_computus_weekday_names)] W) : NamesIn W := by
  have h' : laidMet Tryd.prog [("computus/weekday.names", Rows.laid_computus_weekday_names)] W := h
  obtain ⟨ps, ⟨g', t', cs, fuel, p, q, hg', ht', hvar, hd, _, _⟩, _⟩ := h'
  obtain rfl := Option.some.inj (gNames.symm.trans hg')
  obtain rfl := Option.some.inj (gNamesType.symm.trans ht')
  have e := cells_of_strs (ss := [[115, 117, 110, 100, 97, 121], [109, 111, 110, 100, 97, 121], [116, 117, 101, 115, 100, 97, 121], [119, 101, 100, 110, 101, 115, 100, 97, 121], [116, 104, 117, 114, 115, 100, 97, 121], [102, 114, 105, 100, 97, 121], [115, 97, 116, 117, 114, 100, 97, 121]]) Tryd.underlying43 Tryd.underlying9 cells9 cells43 hd
  have hv : W.var? Tryd.prog "computus/weekday.names" = some cs.toList.toArray := hvar
  rw [e] at hv
  have hc := fun i => World.var?_cell gNames hv i
  have c0 := hc 0
  refine ⟨World.block_lt_of_cell? W _ c0, c0, hc 1, hc 2, hc 3, hc 4, hc 5, hc 6⟩
end Go.Proofs.YtckkllbnmnpafaaDoor
