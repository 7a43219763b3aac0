/- The program's whole numbers: From, Sign, Abs, Cmp. -/
import Derived.Test.YtmcinfbckdiaoaaGreatDoorMa
set_option linter.unusedVariables false
set_option linter.unusedSimpArgs false
set_option maxRecDepth 100000
set_option maxHeartbeats 4000000
namespace Go.Proofs.YtmcinfbckdiaoaaGreatDoor.Lv
open Go Go.RowKit

section
variable (z : Int) (h : Hp) (ρ : Nat → Option Nat) (r : Nat → Nat)
theorem cl_zD : cl (zD z) = true := Eq.trans rfl rfl
theorem flat_zD : flat (zD z) = false := Eq.trans rfl rfl
theorem imp_zD : imp ρ h (zD z) = zD z := Eq.trans rfl rfl
theorem refs_zD : refs ρ (zD z) = [] := Eq.trans rfl rfl
theorem asAgg_zD : asAgg (zD z) = some [u32s (limbs z.natAbs), .bool (decide (z < 0))] := Eq.trans rfl rfl
theorem one_zD : one h (zD z) = false := Eq.trans rfl rfl
end
attribute [go_sem] cl_zD flat_zD imp_zD refs_zD asAgg_zD one_zD
theorem nbit0 : nbit 0 = 0 := Eq.trans rfl rfl
/-- A number without a sign, and a sign. -/
def mkZ (b : Bool) (n : Nat) : Int := if b = true then -(n : Int) else n
theorem mkZ_abs (b : Bool) (n : Nat) : (mkZ b n).natAbs = n := by
  unfold mkZ; split <;> omega
theorem mkZ_neg (b : Bool) (n : Nat) : decide (mkZ b n < 0) = (b && decide (0 < n)) := by
  unfold mkZ
  cases b with
  | true => simp
  | false => simp
theorem mkZ_self (z : Int) : mkZ (decide (z < 0)) z.natAbs = z := by
  unfold mkZ
  by_cases h : z < 0
  · rw [decide_eq_true h, if_pos rfl]; omega
  · rw [decide_eq_false h, if_neg (by simp)]; omega
theorem zD_mk (b : Bool) (n : Nat) : zD (mkZ b n) = .agg [u32s (limbs n), .bool (b && decide (0 < n))] := by
  rw [zD, mkZ_abs, mkZ_neg]
theorem nbit_pos {n : Nat} (h : 0 < n) : 0 < nbit n := by
  unfold nbit; rw [if_neg (by omega)]; omega
theorem nbit_nb (n : Nat) : nbit n ≤ 32 * nb n := by
  have := (nb_lt (n := n) (k := nb n)).1 (Nat.le_refl _)
  exact nbit_lt.2 (by rw [Nat.pow_mul]; exact this)
theorem whole_From (b : Bool) {n : Nat} (hn : nb n < 1073741824) : C E 95 [.bool b, natD n] (zD (mkZ b n)) := by
  refine CG_intro Tryz.func95 rfl (by kernel_rfl) rfl (by kernel_rfl) (by kernel_rfl) rfl ?_
  rw [zD_mk]
  have hl := nbit_nb n
  cases b with
  | true =>
    simp (maxSteps := 3000000) (disch := first | exact trivial | assumption | omega | exact rOk | exact rCl | exact rNo) only [go_sem, seval, natD_u32s]
    refine callCl (nat_Bits hn) (LesV.refl _) rfl ?_
    by_cases h0 : 0 < n
    · have := nbit_pos h0
      have e : decide (0 < n) = true := decide_eq_true h0
      simp (maxSteps := 3000000) (disch := first | exact trivial | assumption | omega | exact rOk | exact rCl | exact rNo) only [go_sem, seval, e]
    · obtain rfl : n = 0 := by omega
      have e : ((nbit 0 : Nat) : Int) = 0 := rfl
      have e2 : decide (0 < 0) = false := rfl
      simp (maxSteps := 3000000) (disch := first | exact trivial | assumption | omega | exact rOk | exact rCl | exact rNo) only [go_sem, seval, e, e2]
  | false =>
    simp (maxSteps := 3000000) (disch := first | exact trivial | assumption | omega | exact rOk | exact rCl | exact rNo) only [go_sem, seval, natD_u32s]
theorem whole_Abs (z : Int) : C E 93 [zD z] (natD z.natAbs) := by
  refine CG_intro Tryz.func93 rfl (by kernel_rfl) rfl (by kernel_rfl) (by kernel_rfl) rfl ?_
  simp (maxSteps := 3000000) (disch := first | exact trivial | assumption | omega | exact rOk | exact rCl | exact rNo) only [go_sem, seval, natD_u32s]
theorem whole_Sign {z : Int} (hz : nb z.natAbs < 1073741824) : C E 91 [zD z] (.int .i64 (sgI z 0)) := by
  refine CG_intro Tryz.func91 rfl (by kernel_rfl) rfl (by kernel_rfl) (by kernel_rfl) rfl ?_
  have hl := nbit_nb z.natAbs
  by_cases h : z < 0
  · have e : decide (z < 0) = true := decide_eq_true h
    simp (maxSteps := 3000000) (disch := first | exact trivial | assumption | omega | exact rOk | exact rCl | exact rNo) only [go_sem, seval, e]
    exact LeV.of_eq (by rw [sgI_lt h])
  · have e : decide (z < 0) = false := decide_eq_false h
    simp (maxSteps := 3000000) (disch := first | exact trivial | assumption | omega | exact rOk | exact rCl | exact rNo) only [go_sem, seval, e]
    refine callC (nat_Bits hz) ?_ rfl ?_
    · simp (maxSteps := 3000000) (disch := first | exact trivial | assumption | omega | exact rOk | exact rCl | exact rNo) only [go_sem, seval, natD_u32s]
      try exact LesV.refl _
    by_cases h0 : z = 0
    · subst h0
      simp (maxSteps := 3000000) (disch := first | exact trivial | assumption | omega | exact rOk | exact rCl | exact rNo) only [go_sem, seval, nbit0, Int.natAbs_zero]
      exact LeV.of_eq rfl
    · have := nbit_pos (n := z.natAbs) (by omega)
      simp (maxSteps := 3000000) (disch := first | exact trivial | assumption | omega | exact rOk | exact rCl | exact rNo) only [go_sem, seval]
      exact LeV.of_eq (by rw [sgI_gt (by omega)])
end Go.Proofs.YtmcinfbckdiaoaaGreatDoor.Lv
