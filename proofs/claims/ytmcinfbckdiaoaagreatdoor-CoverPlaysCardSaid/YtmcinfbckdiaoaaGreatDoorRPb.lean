/- Arguments: rows of pairs of texts with their bounds. -/
import Derived.Test.YtmcinfbckdiaoaaGreatDoorRP
set_option linter.unusedVariables false
set_option linter.unusedSimpArgs false
set_option maxRecDepth 100000
namespace Go.Proofs.YtmcinfbckdiaoaaGreatDoor.Lv
open Go Go.RowKit
theorem pairs_arg2 (x : Option (List (List UInt8 × List UInt8 × Unit))) (w : Sh.wf (.slc shPair) x) : ∃ l : List (Txt × Txt), LeV (Sh.d (.slc shPair) x) (txD l) ∧ ∀ p ∈ l, p.1.length < 9223372036854775808 ∧ p.2.length < 9223372036854775808 := by
  cases x with
  | none => exact ⟨[], LeV.nils, fun p hp => by cases hp⟩
  | some l =>
    refine ⟨l.map toTx, ?_, fun p hp => ?_⟩
    · refine LeV.ro (List.length_map toTx).symm fun i hi => Le.of_eq ?_
      have hz : (l[i]? : Option (List UInt8 × List UInt8 × Unit)) = some l[i] := List.getElem?_eq_getElem hi
      have ht : txR (l.map toTx) i = .agg [.str (toTx l[i]).1, .str (toTx l[i]).2] := by
        rw [txR, List.getD_eq_getElem?_getD, List.getElem?_map, hz]; rfl
      rw [ht]
      split
      · rename_i y hy
        have : some y = some l[i] := hy.symm.trans hz
        cases this
        rfl
      · rename_i hy
        have : none = some l[i] := hy.symm.trans hz
        cases this
    · obtain ⟨y, hy, rfl⟩ := List.mem_map.1 hp
      have h := w.2 y hy
      have h1 : y.1.length ≤ 9223372036854775807 := h.1
      have h2 : y.2.1.length ≤ 9223372036854775807 := h.2.1
      exact ⟨Nat.lt_of_le_of_lt h1 (by decide), Nat.lt_of_le_of_lt h2 (by decide)⟩
end Go.Proofs.YtmcinfbckdiaoaaGreatDoor.Lv
