/- Arguments: rows of pairs of texts, rows of numbers. -/
import Derived.Test.YtmcinfbckdiaoaaGreatDoorRA
import Derived.Test.YtmcinfbckdiaoaaGreatDoorRd
set_option linter.unusedVariables false
set_option linter.unusedSimpArgs false
set_option maxRecDepth 100000
namespace Go.Proofs.YtmcinfbckdiaoaaGreatDoor.Lv
open Go Go.RowKit
theorem ints_arg (x : Option (List Int)) (w : Sh.wf (.slc (.int .i64)) x) : ∃ l : List Int, LeV (Sh.d (.slc (.int .i64)) x) (.ro false 1 l.length (iR l)) ∧ ∀ n ∈ l, I64 n := by
  cases x with
  | none => exact ⟨[], LeV.nils, fun n h => by cases h⟩
  | some l =>
    refine ⟨l, LeV.ro rfl fun i hi => Le.of_eq ?_, fun n hn => bounds_i64 (w.2 n hn)⟩
    have hz : (l[i]? : Option Int) = some l[i] := List.getElem?_eq_getElem hi
    have ht : iR l i = .int .i64 l[i] := by
      rw [iR, List.getD_eq_getElem?_getD, hz]; rfl
    rw [ht]
    split
    · rename_i y hy
      have : some y = some l[i] := hy.symm.trans hz
      cases this
      rfl
    · rename_i hy
      have : none = some l[i] := hy.symm.trans hz
      cases this
abbrev shPair : Sh := .st (.cons .str (.cons .str .nil))
def toTx (y : List UInt8 × List UInt8 × Unit) : Txt × Txt := (y.1, y.2.1)
theorem pairs_arg (x : Option (List (List UInt8 × List UInt8 × Unit))) (w : Sh.wf (.slc shPair) x) : ∃ l : List (Txt × Txt), LeV (Sh.d (.slc shPair) x) (txD l) := by
  cases x with
  | none => exact ⟨[], LeV.nils⟩
  | some l =>
    refine ⟨l.map toTx, ?_⟩
    refine LeV.ro (List.length_map toTx).symm fun i hi => Le.of_eq ?_
    have hz : (l[i]? : Option (List UInt8 × List UInt8 × Unit)) = some l[i] := List.getElem?_eq_getElem hi
    have ht : txR (l.map toTx) i = .agg [.str (toTx l[i]).1, .str (toTx l[i]).2] := by
      rw [txR, List.getD_eq_getElem?_getD, List.getElem?_map, hz]; rfl
    rw [ht]
    split
    · rename_i y hy
      have : some y = some l[i] := hy.symm.trans hz
      cases this
      rfl
    · rename_i hy
      have : none = some l[i] := hy.symm.trans hz
      cases this
end Go.Proofs.YtmcinfbckdiaoaaGreatDoor.Lv
