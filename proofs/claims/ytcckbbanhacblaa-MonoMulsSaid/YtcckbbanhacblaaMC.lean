/- Monomials: the order. -/
import Derived.Test.YtcckbbanhacblaaMB
set_option linter.unusedVariables false
set_option linter.unusedSimpArgs false
set_option maxRecDepth 100000
set_option maxHeartbeats 4000000
namespace Go.Proofs.Ytcckbbanhacblaa.Lv
open Go Go.RowKit

theorem isNaN_u8 (x : Int) : C E 30 [.int .u8 x] (.bool false) := by
  refine CG_intro Try.func30 rfl (by kernel_rfl) rfl (by kernel_rfl) (by kernel_rfl) rfl ?_
  have h : (x != x) = false := by simp
  simp (maxSteps := 3000000) (disch := first | exact trivial | assumption | omega | exact RegOk.mk (by decide +kernel) | exact RegCl.mk (by decide +kernel) | exact RegNo.mk (by kernel_rfl)) only [go_sem, seval, h]
theorem cmp_u8 (x y : Int) : C E 26 [.int .u8 x, .int .u8 y] (.int .i64 (if x < y then -1 else if x > y then 1 else 0)) := by
  refine CG_intro Try.func26 rfl (by kernel_rfl) rfl (by kernel_rfl) (by kernel_rfl) rfl ?_
  simp (maxSteps := 3000000) (disch := first | exact trivial | assumption | omega | exact RegOk.mk (by decide +kernel) | exact RegCl.mk (by decide +kernel) | exact RegNo.mk (by kernel_rfl)) only [go_sem, seval]
  refine callC (isNaN_u8 x) (LesV.refl _) rfl ?_
  simp (maxSteps := 3000000) (disch := first | exact trivial | assumption | omega | exact RegOk.mk (by decide +kernel) | exact RegCl.mk (by decide +kernel) | exact RegNo.mk (by kernel_rfl)) only [go_sem, seval]
  refine callC (isNaN_u8 y) (LesV.refl _) rfl ?_
  by_cases h1 : x < y
  · simp (maxSteps := 3000000) (disch := first | exact trivial | assumption | omega | exact RegOk.mk (by decide +kernel) | exact RegCl.mk (by decide +kernel) | exact RegNo.mk (by kernel_rfl)) only [go_sem, seval, h1]
  · by_cases h2 : x > y
    · simp (maxSteps := 3000000) (disch := first | exact trivial | assumption | omega | exact RegOk.mk (by decide +kernel) | exact RegCl.mk (by decide +kernel) | exact RegNo.mk (by kernel_rfl)) only [go_sem, seval, h1, h2]
    · simp (maxSteps := 3000000) (disch := first | exact trivial | assumption | omega | exact RegOk.mk (by decide +kernel) | exact RegCl.mk (by decide +kernel) | exact RegNo.mk (by kernel_rfl)) only [go_sem, seval, h1, h2]
end Go.Proofs.Ytcckbbanhacblaa.Lv
