/- Arguments: rows of numbers, rows of acts. -/
import Derived.Test.YtpobbfhdkbnpmaaDoorRX
import Derived.Test.YtpobbfhdkbnpmaaDoorHJ
set_option linter.unusedVariables false
set_option linter.unusedSimpArgs false
set_option maxRecDepth 100000
namespace Go.Proofs.YtpobbfhdkbnpmaaDoor.Lv
open Go Go.RowKit

theorem ints_arg (x : Option (List Int)) (w : Sh.wf (.slc (.int .i64)) x) : ∃ l : List Int, LeV (Sh.d (.slc (.int .i64)) x) (.ro false 1 l.length (iR l)) ∧ ∀ n ∈ l, I64 n := by
  cases x with
  | none => exact ⟨[], LeV.nils, fun n h => by cases h⟩
  | some l =>
    refine ⟨l, LeV.ro rfl fun i hi => Le.of_eq ?_, fun n hn => bounds_i64 (w.2 n hn)⟩
    have hz : (l[i]? : Option Int) = some l[i] := List.getElem?_eq_getElem hi
    have ht : iR l i = .int .i64 l[i] := by
      rw [iR, List.getD_eq_getElem?_getD, hz]; rfl
    rw [ht]
    split
    · rename_i y hy
      have : some y = some l[i] := hy.symm.trans hz
      cases this
      rfl
    · rename_i hy
      have : none = some l[i] := hy.symm.trans hz
      cases this
abbrev shAct : Sh := .st (.cons (.int .i64) (.cons (.int .i64) (.cons .str .nil)))
def toAct (y : Int × Int × List UInt8 × Unit) : PAct := ⟨y.1, y.2.1, y.2.2.1⟩
theorem acts_arg (x : Option (List (Int × Int × List UInt8 × Unit))) (w : Sh.wf (.slc shAct) x) : ∃ l : List PAct, LeV (Sh.d (.slc shAct) x) (.ro true 3 l.length (aR l)) ∧ ∀ a ∈ l, I64 a.kind ∧ I64 a.n := by
  cases x with
  | none => exact ⟨[], LeV.nils, fun n h => by cases h⟩
  | some l =>
    refine ⟨l.map toAct, ?_, fun a ha => ?_⟩
    · refine LeV.ro (List.length_map toAct).symm fun i hi => Le.of_eq ?_
      have hz : (l[i]? : Option (Int × Int × List UInt8 × Unit)) = some l[i] := List.getElem?_eq_getElem hi
      have ht : aR (l.map toAct) i = (toAct l[i]).D := by
        rw [aR, List.getD_eq_getElem?_getD, List.getElem?_map, hz]; rfl
      rw [ht]
      split
      · rename_i y hy
        have : some y = some l[i] := hy.symm.trans hz
        cases this
        rfl
      · rename_i hy
        have : none = some l[i] := hy.symm.trans hz
        cases this
    · obtain ⟨y, hy, rfl⟩ := List.mem_map.1 ha
      obtain ⟨h1, h2, _⟩ := w.2 y hy
      exact ⟨bounds_i64 h1, bounds_i64 h2⟩
end Go.Proofs.YtpobbfhdkbnpmaaDoor.Lv
