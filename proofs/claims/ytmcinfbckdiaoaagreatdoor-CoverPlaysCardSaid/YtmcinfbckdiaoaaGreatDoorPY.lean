/- The program's whole numbers and quotients: Parse; strings.Cut. -/
import Derived.Test.YtmcinfbckdiaoaaGreatDoorPX
import Derived.Test.YtmcinfbckdiaoaaGreatDoorSf
set_option linter.unusedVariables false
set_option linter.unusedSimpArgs false
set_option maxRecDepth 100000
set_option maxHeartbeats 4000000
namespace Go.Proofs.YtmcinfbckdiaoaaGreatDoor.Lv
open Go Go.RowKit
theorem lite_IndexByte (s : List UInt8) (c : UInt8) : C E 179 [.str s, .int .u8 (c.toNat : Int)] (.int .i64 (Lib.indexByte s c)) := by
  refine C.of_walk (by kernel_rfl) (fun S w vs hS hv => ?_) (fun φ S w vs hv => ?_)
  · simp only [RepVs, RepV, Rep0] at hv
    obtain ⟨v, vs', rfl, rfl, v2, vs'', rfl, rfl, rfl⟩ := hv
    have h := Tryz.stringslite_IndexByte ⟨s.toArray⟩ (c.toNat : Int) w
    refine h.mono ?_
    rintro e w' ⟨rfl, rfl⟩
    refine ⟨_, rfl, fun S w => ?_, Below.refl _ _⟩
    have e : ((c.toNat : Int)).toNat.toUInt8 = c := by simp
    simp only [Rep0, e]
  · simp only [RepVs, RepV, Rep0] at hv ⊢
    exact hv
theorem ib_lt : ∀ (s : List UInt8) (c : UInt8), Lib.indexByte s c < (s.length : Int) ∧ -1 ≤ Lib.indexByte s c
  | [], c => by simp [Lib.indexByte]
  | b :: l, c => by
    have := ib_lt l c
    simp only [Lib.indexByte, List.length_cons]
    split
    · omega
    · split
      · omega
      · omega
theorem ib_one (c : UInt8) : Lib.indexByte [c] c = 0 := by simp [Lib.indexByte]
theorem lite_Index (s : List UInt8) (c : UInt8) (hs : s.length < 9223372036854775808) : C E 169 [.str s, .str [c]] (.int .i64 (Lib.indexByte s c)) := by
  refine CG_intro Tryz.func169 rfl (by kernel_rfl) rfl (by kernel_rfl) (by kernel_rfl) rfl ?_
  by_cases h : [c] = s
  · subst h
    have e : ([c] == [c]) = true := by simp
    rw [ib_one]
    simp (maxSteps := 3000000) (disch := first | exact trivial | assumption | omega | exact rOk | exact rCl | exact rNo) only [go_sem, seval, e]
  · have e : ([c] == s) = false := beq_eq_false_iff_ne.2 h
    simp (maxSteps := 3000000) (disch := first | exact trivial | assumption | omega | exact rOk | exact rCl | exact rNo) only [go_sem, seval, e]
    refine callC (lite_IndexByte s c) ?_ rfl ?_
    · simp (maxSteps := 3000000) (disch := first | exact trivial | assumption | omega | exact rOk | exact rCl | exact rNo) only [go_sem, seval]
    simp (maxSteps := 3000000) (disch := first | exact trivial | assumption | omega | exact rOk | exact rCl | exact rNo) only [go_sem, seval]
/-- What cutting at a byte comes to. -/
def cutD1 (s : List UInt8) (c : UInt8) : D := if 0 ≤ Lib.indexByte s c then .tup [.str (s.take (Lib.indexByte s c).toNat), .str (s.drop ((Lib.indexByte s c).toNat + 1)), .bool true] else .tup [.str s, .str [], .bool false]
theorem lite_Cut (s : List UInt8) (c : UInt8) (hs : s.length < 9223372036854775808) : C E 158 [.str s, .str [c]] (cutD1 s c) := by
  refine CG_intro Tryz.func158 rfl (by kernel_rfl) rfl (by kernel_rfl) (by kernel_rfl) rfl ?_
  obtain ⟨i1, i2⟩ := ib_lt s c
  have hcl : cl (cutD1 s c) = true := by unfold cutD1; split <;> rfl
  simp (maxSteps := 3000000) (disch := first | exact trivial | assumption | omega | exact rOk | exact rCl | exact rNo) only [go_sem, seval]
  refine callC (lite_Index s c hs) ?_ rfl ?_
  · simp (maxSteps := 3000000) (disch := first | exact trivial | assumption | omega | exact rOk | exact rCl | exact rNo) only [go_sem, seval]
  unfold cutD1
  generalize Lib.indexByte s c = i at *
  by_cases h : 0 ≤ i
  · obtain ⟨j, rfl⟩ := Int.eq_ofNat_of_zero_le h
    rw [if_pos h]
    have t1 : ((j : Int) + 1).toNat = j + 1 := by omega
    have t2 : ((s.length : Nat) : Int).toNat = s.length := by omega
    simp (maxSteps := 3000000) (disch := first | exact trivial | assumption | omega | exact rOk | exact rCl | exact rNo) only [go_sem, seval, t1, t2, List.take_length]
    try exact LeV.refl _
  · rw [if_neg h]
    simp (maxSteps := 3000000) (disch := first | exact trivial | assumption | omega | exact rOk | exact rCl | exact rNo) only [go_sem, seval]
theorem strings_Cut (s : List UInt8) (c : UInt8) (hs : s.length < 9223372036854775808) : C E 125 [.str s, .str [c]] (cutD1 s c) := by
  refine CG_intro Tryz.func125 rfl (by kernel_rfl) rfl (by kernel_rfl) (by kernel_rfl) rfl ?_
  have hcl : cl (cutD1 s c) = true := by unfold cutD1; split <;> rfl
  have hfl : flat (cutD1 s c) = true := by unfold cutD1; split <;> rfl
  simp (maxSteps := 3000000) (disch := first | exact trivial | assumption | omega | exact rOk | exact rCl | exact rNo) only [go_sem, seval]
  refine callC (lite_Cut s c hs) ?_ hcl ?_
  · simp (maxSteps := 3000000) (disch := first | exact trivial | assumption | omega | exact rOk | exact rCl | exact rNo) only [go_sem, seval]
  rw [hfl]
  unfold cutD1
  by_cases h : 0 ≤ Lib.indexByte s c
  · simp only [if_pos h]
    simp (maxSteps := 3000000) (disch := first | exact trivial | assumption | omega | exact rOk | exact rCl | exact rNo) only [go_sem, seval]
  · simp only [if_neg h]
    simp (maxSteps := 3000000) (disch := first | exact trivial | assumption | omega | exact rOk | exact rCl | exact rNo) only [go_sem, seval]
end Go.Proofs.YtmcinfbckdiaoaaGreatDoor.Lv
