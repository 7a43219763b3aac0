/- Arguments: texts. -/
import Derived.Test.YtpobbfhdkbnpmaaDoorRA
import Derived.Test.YtpobbfhdkbnpmaaDoorSM
set_option linter.unusedVariables false
set_option linter.unusedSimpArgs false
set_option maxRecDepth 100000
namespace Go.Proofs.YtpobbfhdkbnpmaaDoor.Lv
open Go Go.RowKit

theorem txts_bulk : ∀ l : List (List UInt8), (l.map fun s => s.length + 1).sum = l.flatten.length + l.length
  | [] => rfl
  | s :: l => by
    rw [List.map_cons, List.sum_cons, txts_bulk l, List.flatten_cons, List.length_append, List.length_cons]
    omega
/-- Texts as an argument. -/
theorem txts_arg (x : Option (List (List UInt8))) : ∃ l : List (List UInt8), LeV (Sh.d (.slc .str) x) (.ro false 1 l.length (tR l)) ∧ Sh.bulk (.slc .str) x = l.flatten.length + l.length + 1 := by
  cases x with
  | none => exact ⟨[], LeV.nils, rfl⟩
  | some l =>
    refine ⟨l, LeV.ro rfl fun i hi => Le.of_eq ?_, ?_⟩
    · have hz : (l[i]? : Option (List UInt8)) = some l[i] := List.getElem?_eq_getElem hi
      have ht : tR l i = .str l[i] := by
        rw [tR_getD, List.getD_eq_getElem?_getD, hz]; rfl
      rw [ht]
      split
      · rename_i y hy
        have : some y = some l[i] := hy.symm.trans hz
        cases this
        rfl
      · rename_i hy
        have : none = some l[i] := hy.symm.trans hz
        cases this
    · show (l.map fun s => s.length + 1).sum + 1 = _
      rw [txts_bulk]
end Go.Proofs.YtpobbfhdkbnpmaaDoor.Lv
