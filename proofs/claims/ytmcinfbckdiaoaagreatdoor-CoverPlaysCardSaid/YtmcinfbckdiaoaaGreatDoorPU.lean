/- The program's whole numbers: Mul, Add, Of. -/
import Derived.Test.YtmcinfbckdiaoaaGreatDoorPM
import Derived.Test.YtmcinfbckdiaoaaGreatDoorMb
import Derived.Test.YtmcinfbckdiaoaaGreatDoorPG
import Derived.Test.YtmcinfbckdiaoaaGreatDoorPI
set_option linter.unusedVariables false
set_option linter.unusedSimpArgs false
set_option maxRecDepth 100000
set_option maxHeartbeats 4000000
namespace Go.Proofs.YtmcinfbckdiaoaaGreatDoor.Lv
open Go Go.RowKit
theorem nb_mul (a b : Nat) : nb (a * b) ≤ nb a + nb b := by
  have h1 := nb_lt.1 (Nat.le_refl (nb a))
  have h2 := nb_lt.1 (Nat.le_refl (nb b))
  refine nb_lt.2 ?_
  rw [Nat.pow_add]
  exact Nat.mul_lt_mul'' h1 h2
theorem nb_add (a b : Nat) : nb (a + b) ≤ max (nb a) (nb b) + 1 := by
  have h1 := nb_lt.1 (Nat.le_refl (nb a))
  have h2 := nb_lt.1 (Nat.le_refl (nb b))
  refine nb_lt.2 ?_
  have h3 : (4294967296 : Nat) ^ nb a ≤ 4294967296 ^ max (nb a) (nb b) := Nat.pow_le_pow_right (by omega) (Nat.le_max_left _ _)
  have h4 : (4294967296 : Nat) ^ nb b ≤ 4294967296 ^ max (nb a) (nb b) := Nat.pow_le_pow_right (by omega) (Nat.le_max_right _ _)
  rw [Nat.pow_succ]
  generalize 4294967296 ^ max (nb a) (nb b) = p at *
  omega
/-- How many limbs a whole number has. -/
def zb (z : Int) : Nat := nb z.natAbs
theorem zb_mul (a b : Int) : zb (a * b) ≤ zb a + zb b := by unfold zb; rw [Int.natAbs_mul]; exact nb_mul _ _
theorem zb_add (a b : Int) : zb (a + b) ≤ max (zb a) (zb b) + 1 := Nat.le_trans (nb_mono' (Int.natAbs_add_le a b)) (nb_add _ _)
where nb_mono' {a b : Nat} (h : a ≤ b) : nb a ≤ nb b := nb_lt.2 (Nat.lt_of_le_of_lt h (nb_lt.1 (Nat.le_refl _)))
theorem zb_neg (a : Int) : zb (-a) = zb a := by unfold zb; rw [Int.natAbs_neg]
theorem mkZ_mul (a b : Int) : mkZ (!(decide (a < 0) == decide (b < 0))) (a.natAbs * b.natAbs) = a * b := by
  have ha : a = (if a < 0 then -(a.natAbs : Int) else a.natAbs) := by split <;> omega
  have hb : b = (if b < 0 then -(b.natAbs : Int) else b.natAbs) := by split <;> omega
  generalize hm : a.natAbs = m at *
  generalize hn : b.natAbs = n at *
  unfold mkZ
  rw [Int.natCast_mul]
  by_cases h1 : a < 0 <;> by_cases h2 : b < 0 <;> simp only [h1, h2, if_true, if_false] at ha hb <;> simp [h1, h2] <;> rw [ha, hb] <;> simp [Int.neg_mul, Int.mul_neg]
theorem bneD (a b : Bool) : (!(a == b)) = (a != b) := rfl
theorem whole_Mul {a b : Int} (ha : zb a < 500000000) (hb : zb b < 500000000) : C E 87 [zD a, zD b] (zD (a * b)) := by
  refine CG_intro Tryz.func87 rfl (by kernel_rfl) rfl (by kernel_rfl) (by kernel_rfl) rfl ?_
  have hm := nb_mul a.natAbs b.natAbs
  unfold zb at ha hb
  have hf := whole_From (!(decide (a < 0) == decide (b < 0))) (n := a.natAbs * b.natAbs) (by omega)
  rw [mkZ_mul] at hf
  simp (maxSteps := 3000000) (disch := first | exact trivial | assumption | omega | exact rOk | exact rCl | exact rNo) only [go_sem, seval]
  refine callCl (nat_Mul (a := a.natAbs) (b := b.natAbs) (by omega) (by omega)) ?_ rfl ?_
  · simp (maxSteps := 3000000) (disch := first | exact trivial | assumption | omega | exact rOk | exact rCl | exact rNo) only [go_sem, seval, natD_u32s]
    try exact LesV.refl _
  simp (maxSteps := 3000000) (disch := first | exact trivial | assumption | omega | exact rOk | exact rCl | exact rNo) only [go_sem, seval]
  refine callCl hf ?_ rfl ?_
  · simp (maxSteps := 3000000) (disch := first | exact trivial | assumption | omega | exact rOk | exact rCl | exact rNo) only [go_sem, seval, natD_u32s]
    try exact LesV.refl _
  simp (maxSteps := 3000000) (disch := first | exact trivial | assumption | omega | exact rOk | exact rCl | exact rNo) only [go_sem, seval]
  try exact LeV.refl _
theorem whole_Add {a b : Int} (ha : zb a < 500000000) (hb : zb b < 500000000) : C E 59 [zD a, zD b] (zD (a + b)) := by
  refine CG_intro Tryz.func59 rfl (by kernel_rfl) rfl (by kernel_rfl) (by kernel_rfl) rfl ?_
  have hm := nb_add a.natAbs b.natAbs
  unfold zb at ha hb
  by_cases hs : decide (a < 0) = decide (b < 0)
  · have e : mkZ (decide (a < 0)) (a.natAbs + b.natAbs) = a + b := by
      unfold mkZ
      by_cases h1 : a < 0
      · have h2 : b < 0 := by simpa [h1] using hs
        simp [h1]; omega
      · have h2 : ¬ b < 0 := by simpa [h1] using hs
        simp [h1]; omega
    have hf := whole_From (decide (a < 0)) (n := a.natAbs + b.natAbs) (by omega)
    rw [e] at hf
    have hq : (decide (a < 0) == decide (b < 0)) = true := by rw [hs]; simp
    simp (maxSteps := 3000000) (disch := first | exact trivial | assumption | omega | exact rOk | exact rCl | exact rNo) only [go_sem, seval, hq]
    refine callCl (nat_Add (a := a.natAbs) (b := b.natAbs) (by omega) (by omega)) ?_ rfl ?_
    · simp (maxSteps := 3000000) (disch := first | exact trivial | assumption | omega | exact rOk | exact rCl | exact rNo) only [go_sem, seval, natD_u32s]
      try exact LesV.refl _
    simp (maxSteps := 3000000) (disch := first | exact trivial | assumption | omega | exact rOk | exact rCl | exact rNo) only [go_sem, seval]
    refine callCl hf ?_ rfl ?_
    · simp (maxSteps := 3000000) (disch := first | exact trivial | assumption | omega | exact rOk | exact rCl | exact rNo) only [go_sem, seval, natD_u32s]
      try exact LesV.refl _
    simp (maxSteps := 3000000) (disch := first | exact trivial | assumption | omega | exact rOk | exact rCl | exact rNo) only [go_sem, seval]
    try exact LeV.refl _
  · have hq : (decide (a < 0) == decide (b < 0)) = false := by simpa using hs
    have hor : (a < 0 ∧ ¬ b < 0) ∨ (¬ a < 0 ∧ b < 0) := by
      by_cases h1 : a < 0 <;> by_cases h2 : b < 0 <;> simp_all
    simp (maxSteps := 3000000) (disch := first | exact trivial | assumption | omega | exact rOk | exact rCl | exact rNo) only [go_sem, seval, hq]
    by_cases hle : b.natAbs ≤ a.natAbs
    · have e : mkZ (decide (a < 0)) (a.natAbs - b.natAbs) = a + b := by
        unfold mkZ
        by_cases h1 : a < 0 <;> simp [h1] <;> omega
      have hd : nb (a.natAbs - b.natAbs) ≤ nb a.natAbs := nb_lt.2 (Nat.lt_of_le_of_lt (Nat.sub_le _ _) (nb_lt.1 (Nat.le_refl _)))
      have hf := whole_From (decide (a < 0)) (n := a.natAbs - b.natAbs) (by omega)
      rw [e] at hf
      refine callC (nat_Sub (a := a.natAbs) (b := b.natAbs) (by omega) (by omega) hle) ?_ rfl ?_
      · simp (maxSteps := 3000000) (disch := first | exact trivial | assumption | omega | exact rOk | exact rCl | exact rNo) only [go_sem, seval, natD_u32s]
        try exact LesV.refl _
      simp (maxSteps := 3000000) (disch := first | exact trivial | assumption | omega | exact rOk | exact rCl | exact rNo) only [go_sem, seval]
      refine callC hf ?_ rfl ?_
      · simp (maxSteps := 3000000) (disch := first | exact trivial | assumption | omega | exact rOk | exact rCl | exact rNo) only [go_sem, seval, natD_u32s]
        try exact LesV.refl _
      simp (maxSteps := 3000000) (disch := first | exact trivial | assumption | omega | exact rOk | exact rCl | exact rNo) only [go_sem, seval]
      try exact LeV.refl _
    · have e : mkZ (decide (b < 0)) (b.natAbs - a.natAbs) = a + b := by
        unfold mkZ
        by_cases h1 : b < 0 <;> simp [h1] <;> omega
      have hd : nb (b.natAbs - a.natAbs) ≤ nb b.natAbs := nb_lt.2 (Nat.lt_of_le_of_lt (Nat.sub_le _ _) (nb_lt.1 (Nat.le_refl _)))
      have hf := whole_From (decide (b < 0)) (n := b.natAbs - a.natAbs) (by omega)
      rw [e] at hf
      refine callC (nat_Sub_lt (a := a.natAbs) (b := b.natAbs) (by omega) (by omega) (by omega)) ?_ rfl ?_
      · simp (maxSteps := 3000000) (disch := first | exact trivial | assumption | omega | exact rOk | exact rCl | exact rNo) only [go_sem, seval, natD_u32s]
        try exact LesV.refl _
      simp (maxSteps := 3000000) (disch := first | exact trivial | assumption | omega | exact rOk | exact rCl | exact rNo) only [go_sem, seval]
      refine callC (nat_Sub (a := b.natAbs) (b := a.natAbs) (by omega) (by omega) (by omega)) ?_ rfl ?_
      · simp (maxSteps := 3000000) (disch := first | exact trivial | assumption | omega | exact rOk | exact rCl | exact rNo) only [go_sem, seval, natD_u32s]
        try exact LesV.refl _
      simp (maxSteps := 3000000) (disch := first | exact trivial | assumption | omega | exact rOk | exact rCl | exact rNo) only [go_sem, seval]
      refine callC hf ?_ rfl ?_
      · simp (maxSteps := 3000000) (disch := first | exact trivial | assumption | omega | exact rOk | exact rCl | exact rNo) only [go_sem, seval, natD_u32s]
        try exact LesV.refl _
      simp (maxSteps := 3000000) (disch := first | exact trivial | assumption | omega | exact rOk | exact rCl | exact rNo) only [go_sem, seval]
      try exact LeV.refl _
theorem whole_Of {v : Int} (h1 : -9223372036854775808 ≤ v) (h2 : v < 9223372036854775808) : C E 164 [.int .i64 v] (zD v) := by
  refine CG_intro Tryz.func164 rfl (by kernel_rfl) rfl (by kernel_rfl) (by kernel_rfl) rfl ?_
  have hb : nb v.natAbs ≤ 2 := nb_lt.2 (by rw [show (4294967296 : Nat) ^ 2 = 18446744073709551616 from rfl]; omega)
  have hf := whole_From (decide (v < 0)) (n := v.natAbs) (by omega)
  rw [mkZ_self] at hf
  by_cases h : v < 0
  · have e1 : IntKind.u64.wrap (0 - IntKind.u64.wrap v) = (v.natAbs : Int) := by rw [u64_wr, u64_wr]; omega
    rw [decide_eq_true h] at hf
    simp (maxSteps := 3000000) (disch := first | exact trivial | assumption | omega | exact rOk | exact rCl | exact rNo) only [go_sem, seval, e1]
    refine callC (nat_Of (v := v.natAbs) (by omega)) ?_ rfl ?_
    · simp (maxSteps := 3000000) (disch := first | exact trivial | assumption | omega | exact rOk | exact rCl | exact rNo) only [go_sem, seval]
    simp (maxSteps := 3000000) (disch := first | exact trivial | assumption | omega | exact rOk | exact rCl | exact rNo) only [go_sem, seval]
    refine callC hf ?_ rfl ?_
    · simp (maxSteps := 3000000) (disch := first | exact trivial | assumption | omega | exact rOk | exact rCl | exact rNo) only [go_sem, seval, natD_u32s]
      try exact LesV.refl _
    simp (maxSteps := 3000000) (disch := first | exact trivial | assumption | omega | exact rOk | exact rCl | exact rNo) only [go_sem, seval]
    try exact LeV.refl _
  · have e1 : IntKind.u64.wrap v = (v.natAbs : Int) := by rw [u64_wr]; omega
    rw [decide_eq_false h] at hf
    simp (maxSteps := 3000000) (disch := first | exact trivial | assumption | omega | exact rOk | exact rCl | exact rNo) only [go_sem, seval, e1]
    refine callC (nat_Of (v := v.natAbs) (by omega)) ?_ rfl ?_
    · simp (maxSteps := 3000000) (disch := first | exact trivial | assumption | omega | exact rOk | exact rCl | exact rNo) only [go_sem, seval]
    simp (maxSteps := 3000000) (disch := first | exact trivial | assumption | omega | exact rOk | exact rCl | exact rNo) only [go_sem, seval]
    refine callC hf ?_ rfl ?_
    · simp (maxSteps := 3000000) (disch := first | exact trivial | assumption | omega | exact rOk | exact rCl | exact rNo) only [go_sem, seval, natD_u32s]
      try exact LesV.refl _
    simp (maxSteps := 3000000) (disch := first | exact trivial | assumption | omega | exact rOk | exact rCl | exact rNo) only [go_sem, seval]
    try exact LeV.refl _
end Go.Proofs.YtmcinfbckdiaoaaGreatDoor.Lv
