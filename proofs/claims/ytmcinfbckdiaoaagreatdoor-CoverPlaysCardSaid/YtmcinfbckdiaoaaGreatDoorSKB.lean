/- What the row's list gives: the library's table, as the engine reads it. -/
import Derived.Test.YtmcinfbckdiaoaaGreatDoorRA
import Derived.Lib.LaidTab
set_option linter.unusedVariables false
set_option linter.unusedSimpArgs false
set_option maxRecDepth 100000
set_option maxHeartbeats 4000000
namespace Go.Proofs.YtmcinfbckdiaoaaGreatDoor.Lv
open Go Go.RowKit

theorem gTab : Tryz.prog.globalNamed "math/bits.deBruijn32tab" = some 0 := by kernel_rfl
theorem gTabType : (Tryz.prog.globals[0]?).map (·.type) = some 233 := by kernel_rfl
def kz : List Int := deBr
def laidDat {H : Type} : List (String × DataW H) := [("math/bits.deBruijn32tab", Rows.laid_math_bits_deBruijn32tab)]
theorem rounds_tab {W : World} (h : laidMetH Tryz.prog laidDat W) : Lib.TabIs Tryz.prog W "math/bits.deBruijn32tab" .u8 kz :=
  Lib.tabIs_of_head (rest := []) gTab gTabType Tryz.underlying233 Tryz.underlying5 (by kernel_rfl) (by kernel_rfl) h
theorem laid_gok {W : World} (h : laidMetH Tryz.prog laidDat W) : GOK E (fun b => b < W.heap.size) W := by
  intro g
  show Rep0 _ W (gv0 g) _
  unfold gv0 gvS gvB
  split
  · rename_i e
    subst e
    have hc := fun i hi => (rounds_tab h).cell gTab i hi
    have hlen : kz.length = 32 := rfl
    simp only [Rep0, deBrD]
    refine ⟨_, 0, .agg ⟨kz.map (Value.int .u8)⟩, kz.map (Value.int .u8), rfl, World.block_lt_of_cell? _ _ (hc 0 (by omega)), by simp [hlen], fun j x hj => ?_, rfl, kz.map (Value.int .u8), rfl, ?_⟩
    · rw [List.getElem?_map, Option.map_eq_some_iff] at hj
      obtain ⟨z, hz, rfl⟩ := hj
      obtain ⟨hlt, hz⟩ := List.getElem?_eq_some_iff.1 hz
      refine ⟨?_, rfl⟩
      rw [Nat.zero_add, hc j hlt, List.getD_eq_getElem?_getD, List.getElem?_eq_getElem hlt, hz]
      rfl
    · unfold kz
      generalize deBr = l
      induction l with
      | nil => simp [Rep0s]
      | cons x l ih =>
        simp only [List.map_cons, Rep0s]
        exact ⟨_, _, rfl, rfl, ih⟩
  · rfl
end Go.Proofs.YtmcinfbckdiaoaaGreatDoor.Lv
