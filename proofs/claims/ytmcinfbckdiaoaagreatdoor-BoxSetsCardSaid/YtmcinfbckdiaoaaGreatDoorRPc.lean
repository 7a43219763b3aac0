/- Arguments: rows of texts with their bounds. -/
import Derived.Test.YtmcinfbckdiaoaaGreatDoorRPb
import Derived.Test.YtmcinfbckdiaoaaGreatDoorROi
set_option linter.unusedVariables false
set_option linter.unusedSimpArgs false
set_option maxRecDepth 100000
namespace Go.Proofs.YtmcinfbckdiaoaaGreatDoor.Lv
open Go Go.RowKit
theorem txts_arg2 (x : Option (List (List UInt8))) (w : Sh.wf (.slc .str) x) : ∃ l : List Txt, LeV (Sh.d (.slc .str) x) (tlD l) ∧ ∀ p ∈ l, p.length < 9223372036854775808 := by
  cases x with
  | none => exact ⟨[], LeV.nils, fun p hp => by cases hp⟩
  | some l =>
    refine ⟨l, ?_, fun p hp => ?_⟩
    · refine LeV.ro rfl fun i hi => Le.of_eq ?_
      have hz : (l[i]? : Option (List UInt8)) = some l[i] := List.getElem?_eq_getElem hi
      have ht : tR l i = .str l[i] := by
        rw [tR, List.getD_eq_getElem?_getD, hz]; rfl
      rw [ht]
      split
      · rename_i y hy
        have : some y = some l[i] := hy.symm.trans hz
        cases this
        rfl
      · rename_i hy
        have : none = some l[i] := hy.symm.trans hz
        cases this
    · have h : p.length ≤ 9223372036854775807 := w.2 p hp
      exact Nat.lt_of_le_of_lt h (by decide)
end Go.Proofs.YtmcinfbckdiaoaaGreatDoor.Lv
