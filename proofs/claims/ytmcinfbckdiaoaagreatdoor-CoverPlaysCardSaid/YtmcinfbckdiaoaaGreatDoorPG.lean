/- The program's whole numbers: Cmp. -/
import Derived.Test.YtmcinfbckdiaoaaGreatDoorPF
set_option linter.unusedVariables false
set_option linter.unusedSimpArgs false
set_option maxRecDepth 100000
set_option maxHeartbeats 4000000
namespace Go.Proofs.YtmcinfbckdiaoaaGreatDoor.Lv
open Go Go.RowKit

theorem sgI_congr {a b c d : Int} (h1 : a < b ↔ c < d) (h2 : a = b ↔ c = d) : sgI a b = sgI c d := by
  unfold sgI
  simp only [h1, h2]
theorem whole_Cmp {a b : Int} (ha : nb a.natAbs < 1073741824) (hb : nb b.natAbs < 1073741824) : C E 54 [zD a, zD b] (.int .i64 (sgI a b)) := by
  refine CG_intro Tryz.func54 rfl (by kernel_rfl) rfl (by kernel_rfl) (by kernel_rfl) rfl ?_
  have t1 : (true == true) = true := rfl
  have t2 : (true == false) = false := rfl
  have t3 : (false == true) = false := rfl
  have t4 : (false == false) = true := rfl
  by_cases h1 : a < 0
  · have e1 : decide (a < 0) = true := decide_eq_true h1
    by_cases h2 : b < 0
    · have e2 : decide (b < 0) = true := decide_eq_true h2
      simp (maxSteps := 3000000) (disch := first | exact trivial | assumption | omega | exact rOk | exact rCl | exact rNo) only [go_sem, seval, e1, e2, t1, t2, t3, t4]
      refine callC (nat_Cmp hb ha) ?_ rfl ?_
      · simp (maxSteps := 3000000) (disch := first | exact trivial | assumption | omega | exact rOk | exact rCl | exact rNo) only [go_sem, seval, natD_u32s]
        try exact LesV.refl _
      simp (maxSteps := 3000000) (disch := first | exact trivial | assumption | omega | exact rOk | exact rCl | exact rNo) only [go_sem, seval]
      exact LeV.of_eq (by rw [sgI_congr (c := a) (d := b) (by omega) (by omega)])
    · have e2 : decide (b < 0) = false := decide_eq_false h2
      simp (maxSteps := 3000000) (disch := first | exact trivial | assumption | omega | exact rOk | exact rCl | exact rNo) only [go_sem, seval, e1, e2, t1, t2, t3, t4]
      exact LeV.of_eq (by rw [sgI_lt (by omega)])
  · have e1 : decide (a < 0) = false := decide_eq_false h1
    by_cases h2 : b < 0
    · have e2 : decide (b < 0) = true := decide_eq_true h2
      simp (maxSteps := 3000000) (disch := first | exact trivial | assumption | omega | exact rOk | exact rCl | exact rNo) only [go_sem, seval, e1, e2, t1, t2, t3, t4]
      exact LeV.of_eq (by rw [sgI_gt (by omega)])
    · have e2 : decide (b < 0) = false := decide_eq_false h2
      simp (maxSteps := 3000000) (disch := first | exact trivial | assumption | omega | exact rOk | exact rCl | exact rNo) only [go_sem, seval, e1, e2, t1, t2, t3, t4]
      refine callC (nat_Cmp ha hb) ?_ rfl ?_
      · simp (maxSteps := 3000000) (disch := first | exact trivial | assumption | omega | exact rOk | exact rCl | exact rNo) only [go_sem, seval, natD_u32s]
        try exact LesV.refl _
      simp (maxSteps := 3000000) (disch := first | exact trivial | assumption | omega | exact rOk | exact rCl | exact rNo) only [go_sem, seval]
      exact LeV.of_eq (by rw [sgI_congr (c := a) (d := b) (by omega) (by omega)])
end Go.Proofs.YtmcinfbckdiaoaaGreatDoor.Lv
