/- Monomials: the laws of products and of what is told. -/
import Derived.Test.YtcckbbanhacblaaMI
set_option linter.unusedVariables false
set_option linter.unusedSimpArgs false
set_option maxRecDepth 100000
set_option maxHeartbeats 4000000
namespace Go.Proofs.Ytcckbbanhacblaa.Lv
open Go Go.RowKit

theorem law_MonoTells {a b c a' b' c' : Nat} (ha : a < 256) (hb : b < 256) (hc : c < 256) (ha' : a' < 256) (hb' : b' < 256) (hc' : c' < 256) :
    C E 4 [monoD a b c, monoD a' b' c'] (.bool true) := by
  refine CG_intro Try.func4 rfl (by kernel_rfl) rfl (by kernel_rfl) (by kernel_rfl) rfl ?_
  simp (maxSteps := 3000000) (disch := first | exact trivial | assumption | omega | exact RegOk.mk (by decide +kernel) | exact RegCl.mk (by decide +kernel) | exact RegNo.mk (by kernel_rfl)) only [go_sem, seval, monoD]
  refine callC (mono_Mul ha hb hc ha' hb' hc') (LesV.refl _) rfl ?_
  simp (maxSteps := 3000000) (disch := first | exact trivial | assumption | omega | exact RegOk.mk (by decide +kernel) | exact RegCl.mk (by decide +kernel) | exact RegNo.mk (by kernel_rfl)) only [go_sem, seval, monoD, mulD]
  refine callC (ref_MonoMul ha hb hc ha' hb' hc') (LesV.refl _) rfl ?_
  have dv : divs a b c a' b' c' = (decide ((a : Int) ≤ a') && decide ((b : Int) ≤ b') && decide ((c : Int) ≤ c')) := by
    rw [Bool.eq_iff_iff]
    simp [divs]
    omega
  simp (maxSteps := 3000000) (disch := first | exact trivial | assumption | omega | exact RegOk.mk (by decide +kernel) | exact RegCl.mk (by decide +kernel) | exact RegNo.mk (by kernel_rfl)) only [go_sem, seval, monoD, mulD]
  by_cases h1 : (a : Int) ≤ a' <;> by_cases h2 : (b : Int) ≤ b' <;> by_cases h3 : (c : Int) ≤ c'
  all_goals
    simp only [h1, h2, h3, decide_true, decide_false, Bool.true_and, Bool.false_and, Bool.and_false] at dv
    simp (maxSteps := 3000000) (disch := first | exact trivial | assumption | omega | exact RegOk.mk (by decide +kernel) | exact RegCl.mk (by decide +kernel) | exact RegNo.mk (by kernel_rfl)) only [go_sem, seval, monoD, mulD, h1, h2, h3]
    refine callC law7_alive (LesV.refl _) rfl ?_
    simp (maxSteps := 3000000) (disch := first | exact trivial | assumption | omega | exact RegOk.mk (by decide +kernel) | exact RegCl.mk (by decide +kernel) | exact RegNo.mk (by kernel_rfl)) only [go_sem, seval, monoD, mulD]
    refine callC (mono_Degree ha hb hc) (LesV.refl _) rfl ?_
    simp (maxSteps := 3000000) (disch := first | exact trivial | assumption | omega | exact RegOk.mk (by decide +kernel) | exact RegCl.mk (by decide +kernel) | exact RegNo.mk (by kernel_rfl)) only [go_sem, seval, monoD, mulD]
    refine callC (ref_Degree ha hb hc) (LesV.refl _) rfl ?_
    simp (maxSteps := 3000000) (disch := first | exact trivial | assumption | omega | exact RegOk.mk (by decide +kernel) | exact RegCl.mk (by decide +kernel) | exact RegNo.mk (by kernel_rfl)) only [go_sem, seval, monoD, mulD]
    refine callC mono_Vars (LesV.refl _) rfl ?_
    simp (maxSteps := 3000000) (disch := first | exact trivial | assumption | omega | exact RegOk.mk (by decide +kernel) | exact RegCl.mk (by decide +kernel) | exact RegNo.mk (by kernel_rfl)) only [go_sem, seval, monoD, mulD]
    refine callC ref_MonoVars (LesV.refl _) rfl ?_
    simp (maxSteps := 3000000) (disch := first | exact trivial | assumption | omega | exact RegOk.mk (by decide +kernel) | exact RegCl.mk (by decide +kernel) | exact RegNo.mk (by kernel_rfl)) only [go_sem, seval, monoD, mulD]
    refine callC (mono_Cmp ha hb hc ha' hb' hc') (LesV.refl _) rfl ?_
    simp (maxSteps := 3000000) (disch := first | exact trivial | assumption | omega | exact RegOk.mk (by decide +kernel) | exact RegCl.mk (by decide +kernel) | exact RegNo.mk (by kernel_rfl)) only [go_sem, seval, monoD, mulD]
    refine callC (ref_MonoCmp ha hb hc ha' hb' hc') (LesV.refl _) rfl ?_
    simp (maxSteps := 3000000) (disch := first | exact trivial | assumption | omega | exact RegOk.mk (by decide +kernel) | exact RegCl.mk (by decide +kernel) | exact RegNo.mk (by kernel_rfl)) only [go_sem, seval, monoD, mulD]
    refine callC mono_Divides (LesV.refl _) rfl ?_
    simp (maxSteps := 3000000) (disch := first | exact trivial | assumption | omega | exact RegOk.mk (by decide +kernel) | exact RegCl.mk (by decide +kernel) | exact RegNo.mk (by kernel_rfl)) only [go_sem, seval, monoD, mulD, dv]
end Go.Proofs.Ytcckbbanhacblaa.Lv
