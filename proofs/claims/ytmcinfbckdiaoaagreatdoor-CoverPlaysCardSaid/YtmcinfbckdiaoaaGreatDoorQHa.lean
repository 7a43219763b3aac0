/- A first box. -/
import Derived.Test.YtmcinfbckdiaoaaGreatDoorQE
set_option linter.unusedVariables false
set_option linter.unusedSimpArgs false
set_option maxRecDepth 100000
set_option maxHeartbeats 4000000
namespace Go.Proofs.YtmcinfbckdiaoaaGreatDoor.Lv
open Go Go.RowKit
theorem isOk_one : okNat [49] = true := by decide
theorem rp_one : rpO [49] = some ((1 : Int) : Rat) := by
  unfold rpO
  have e : ¬ 0 ≤ Lib.indexByte [49] 47 := by decide
  rw [if_neg e]
  have : zpO [49] = some 1 := by
    unfold zpO
    rw [if_neg (by decide), if_pos isOk_one]
    rfl
  rw [this]; rfl
theorem rp_zero : rpO [48] = some ((0 : Int) : Rat) := by
  unfold rpO
  have e : ¬ 0 ≤ Lib.indexByte [48] 47 := by decide
  rw [if_neg e]
  have : zpO [48] = some 0 := by
    unfold zpO
    rw [if_neg (by decide), if_pos (by decide)]
    rfl
  rw [this]; rfl
theorem dyq_int (v : Int) : dyq (v : Rat) := by
  unfold dyq
  rw [Rat.den_intCast, tz_odd rfl]
  rfl
theorem box01 : boxR [([48], [49])] = ([(((0 : Int) : Rat), ((1 : Int) : Rat))], 0) := by
  have e1 : spR [48] [49] = ((((0 : Int) : Rat), ((1 : Int) : Rat)), 0) := by
    unfold spR
    rw [rp_zero, rp_one]
    have : ¬ ((1 : Int) : Rat) < ((0 : Int) : Rat) := by decide
    simp only [this, if_false]
  have e2 : sideR [48] [49] = ((((0 : Int) : Rat), ((1 : Int) : Rat)), 0) := by
    unfold sideR
    rw [e1]
    have h : ¬ ((1 : Int) : Rat) ≤ ((0 : Int) : Rat) := by decide
    simp only [ne_eq, not_true_eq_false, if_false, h, dyq_int, and_self, if_true]
  have e3 : sidesR [([48], [49])] = ([(((0 : Int) : Rat), ((1 : Int) : Rat))], 0) := by
    unfold sidesR
    simp [List.find?, e2]
  unfold boxR
  rw [if_neg (by decide), e3]
theorem right01 : rightB [(((0 : Int) : Rat), ((1 : Int) : Rat))] = true := by decide
theorem qb_int01 : qb 40000000 ((0 : Int) : Rat) ∧ qb 40000000 ((1 : Int) : Rat) := by
  have h0 : nb 0 ≤ 0 := nb_lt.2 (by omega)
  have h1 : nb 1 ≤ 1 := nb_lt.2 (by omega)
  exact ⟨⟨by show nb 0 ≤ _; omega, by show nb 1 ≤ _; omega⟩, ⟨by show nb 1 ≤ _; omega, by show nb 1 ≤ _; omega⟩⟩
end Go.Proofs.YtmcinfbckdiaoaaGreatDoor.Lv
