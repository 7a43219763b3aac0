/- Monomials: the law of products. -/
import Derived.Test.YtcckbbanhacblaaMI
set_option linter.unusedVariables false
set_option linter.unusedSimpArgs false
set_option maxRecDepth 100000
set_option maxHeartbeats 4000000
namespace Go.Proofs.Ytcckbbanhacblaa.Lv
open Go Go.RowKit

theorem fit_comm (a b c a' b' c' : Nat) : fit a' b' c' a b c = fit a b c a' b' c' := by
  rw [Bool.eq_iff_iff]
  simp only [fit, decide_eq_true_eq]
  omega
theorem law_MonoMuls {a b c a' b' c' x y z : Nat} (ha : a < 256) (hb : b < 256) (hc : c < 256) (ha' : a' < 256) (hb' : b' < 256) (hc' : c' < 256) (hx : x < 256) (hy : y < 256) (hz : z < 256) :
    C E 5 [monoD a b c, monoD a' b' c', monoD x y z] (.bool true) := by
  refine CG_intro Try.func5 rfl (by kernel_rfl) rfl (by kernel_rfl) (by kernel_rfl) rfl ?_
  have fc := fit_comm a b c a' b' c'
  have e1 : ((pk (fit a b c a' b' c') (a + a') : Int) != (pk (fit a b c a' b' c') (a' + a))) = false := by simp [Nat.add_comm]
  simp (maxSteps := 3000000) (disch := first | exact trivial | assumption | omega | exact RegOk.mk (by decide +kernel) | exact RegCl.mk (by decide +kernel) | exact RegNo.mk (by kernel_rfl)) only [go_sem, seval, monoD]
  refine callC (mono_Mul ha hb hc ha' hb' hc') (LesV.refl _) rfl ?_
  simp (maxSteps := 3000000) (disch := first | exact trivial | assumption | omega | exact RegOk.mk (by decide +kernel) | exact RegCl.mk (by decide +kernel) | exact RegNo.mk (by kernel_rfl)) only [go_sem, seval, monoD, mulD]
  refine callC (mono_Mul ha' hb' hc' ha hb hc) (LesV.refl _) rfl ?_
  obtain ⟨p1, p2, p3⟩ := pk_lt (a := a) (b := b) (c := c) (a' := a') (b' := b') (c' := c')
  simp (maxSteps := 3000000) (disch := first | exact trivial | assumption | omega | exact RegOk.mk (by decide +kernel) | exact RegCl.mk (by decide +kernel) | exact RegNo.mk (by kernel_rfl)) only [go_sem, seval, monoD, mulD, fc, Nat.add_comm a' a, Nat.add_comm b' b, Nat.add_comm c' c]
  refine callC law7_alive (LesV.refl _) rfl ?_
  have eb : ∀ t : Bool, (t == t) = true := fun t => by simp
  have nb : ∀ t : Bool, (!(t == t)) = false := fun t => by simp
  cases f1 : fit a b c a' b' c'
  · simp (maxSteps := 3000000) (disch := first | exact trivial | assumption | omega | exact RegOk.mk (by decide +kernel) | exact RegCl.mk (by decide +kernel) | exact RegNo.mk (by kernel_rfl)) only [go_sem, seval, monoD, mulD, pk, f1]
  rw [f1] at p1 p2 p3
  simp (maxSteps := 3000000) (disch := first | exact trivial | assumption | omega | exact RegOk.mk (by decide +kernel) | exact RegCl.mk (by decide +kernel) | exact RegNo.mk (by kernel_rfl)) only [go_sem, seval, monoD, mulD, pk, f1]
  simp only [pk, if_true] at p1 p2 p3
  refine callC (mono_Mul p1 p2 p3 hx hy hz) (LesV.refl _) rfl ?_
  simp (maxSteps := 3000000) (disch := first | exact trivial | assumption | omega | exact RegOk.mk (by decide +kernel) | exact RegCl.mk (by decide +kernel) | exact RegNo.mk (by kernel_rfl)) only [go_sem, seval, monoD, mulD]
  refine callC (mono_Mul ha' hb' hc' hx hy hz) (LesV.refl _) rfl ?_
  have d1 : divs a b c (a + a') (b + b') (c + c') = true := by simp [divs]
  have d2 : divs a' b' c' (a + a') (b + b') (c + c') = true := by simp [divs]
  have dg : (((a + a' + (b + b') + (c + c') : Nat) : Int) == ((a + b + c : Nat) : Int) + ((a' + b' + c' : Nat) : Int)) = true := by
    rw [beq_iff_eq]; omega
  have vr : (((vars (a + a') (b + b') (c + c') : Nat) : Int) == max (vars a b c : Int) (vars a' b' c')) = true := by
    rw [beq_iff_eq]
    simp only [vars]
    (repeat' split) <;> omega
  have rest : fit (a + a') (b + b') (c + c') x y z = true → fit a' b' c' x y z = true ∧ fit a b c (a' + x) (b' + y) (c' + z) = true := by
    simp only [fit, decide_eq_true_eq]
    omega
  obtain ⟨s1, s2, s3⟩ := pk_lt (a := a') (b := b') (c := c') (a' := x) (b' := y) (c' := z)
  clear e1 eb nb
  cases f2 : fit (a + a') (b + b') (c + c') x y z
  · simp (maxSteps := 3000000) (disch := first | exact trivial | assumption | omega | exact RegOk.mk (by decide +kernel) | exact RegCl.mk (by decide +kernel) | exact RegNo.mk (by kernel_rfl)) only [go_sem, seval, monoD, mulD, f2]
    refine callC (mono_Mul ha hb hc s1 s2 s3) (LesV.refl _) rfl ?_
    simp (maxSteps := 3000000) (disch := first | exact trivial | assumption | omega | exact RegOk.mk (by decide +kernel) | exact RegCl.mk (by decide +kernel) | exact RegNo.mk (by kernel_rfl)) only [go_sem, seval, monoD, mulD]
    refine callC (mono_Degree p1 p2 p3) (LesV.refl _) rfl ?_
    simp (maxSteps := 3000000) (disch := first | exact trivial | assumption | omega | exact RegOk.mk (by decide +kernel) | exact RegCl.mk (by decide +kernel) | exact RegNo.mk (by kernel_rfl)) only [go_sem, seval, monoD, mulD]
    refine callC (mono_Degree ha hb hc) (LesV.refl _) rfl ?_
    simp (maxSteps := 3000000) (disch := first | exact trivial | assumption | omega | exact RegOk.mk (by decide +kernel) | exact RegCl.mk (by decide +kernel) | exact RegNo.mk (by kernel_rfl)) only [go_sem, seval, monoD, mulD]
    refine callC (mono_Degree ha' hb' hc') (LesV.refl _) rfl ?_
    simp (maxSteps := 3000000) (disch := first | exact trivial | assumption | omega | exact RegOk.mk (by decide +kernel) | exact RegCl.mk (by decide +kernel) | exact RegNo.mk (by kernel_rfl)) only [go_sem, seval, monoD, mulD, dg]
    refine callC mono_Divides (LesV.refl _) rfl ?_
    simp (maxSteps := 3000000) (disch := first | exact trivial | assumption | omega | exact RegOk.mk (by decide +kernel) | exact RegCl.mk (by decide +kernel) | exact RegNo.mk (by kernel_rfl)) only [go_sem, seval, monoD, mulD, d1]
    refine callC mono_Divides (LesV.refl _) rfl ?_
    simp (maxSteps := 3000000) (disch := first | exact trivial | assumption | omega | exact RegOk.mk (by decide +kernel) | exact RegCl.mk (by decide +kernel) | exact RegNo.mk (by kernel_rfl)) only [go_sem, seval, monoD, mulD, d2, f2]
    refine callC mono_Vars (LesV.refl _) rfl ?_
    simp (maxSteps := 3000000) (disch := first | exact trivial | assumption | omega | exact RegOk.mk (by decide +kernel) | exact RegCl.mk (by decide +kernel) | exact RegNo.mk (by kernel_rfl)) only [go_sem, seval, monoD, mulD]
    refine callC mono_Vars (LesV.refl _) rfl ?_
    simp (maxSteps := 3000000) (disch := first | exact trivial | assumption | omega | exact RegOk.mk (by decide +kernel) | exact RegCl.mk (by decide +kernel) | exact RegNo.mk (by kernel_rfl)) only [go_sem, seval, monoD, mulD]
    refine callC mono_Vars (LesV.refl _) rfl ?_
    simp (maxSteps := 3000000) (disch := first | exact trivial | assumption | omega | exact RegOk.mk (by decide +kernel) | exact RegCl.mk (by decide +kernel) | exact RegNo.mk (by kernel_rfl)) only [go_sem, seval, monoD, mulD, vr]
  · obtain ⟨f3, f4⟩ := rest f2
    simp only [f3, pk, if_true] at s1 s2 s3
    simp (maxSteps := 3000000) (disch := first | exact trivial | assumption | omega | exact RegOk.mk (by decide +kernel) | exact RegCl.mk (by decide +kernel) | exact RegNo.mk (by kernel_rfl)) only [go_sem, seval, monoD, mulD, f2, f3, pk]
    refine callC (mono_Mul ha hb hc s1 s2 s3) (LesV.refl _) rfl ?_
    simp (maxSteps := 3000000) (disch := first | exact trivial | assumption | omega | exact RegOk.mk (by decide +kernel) | exact RegCl.mk (by decide +kernel) | exact RegNo.mk (by kernel_rfl)) only [go_sem, seval, monoD, mulD]
    refine callC (mono_Degree p1 p2 p3) (LesV.refl _) rfl ?_
    simp (maxSteps := 3000000) (disch := first | exact trivial | assumption | omega | exact RegOk.mk (by decide +kernel) | exact RegCl.mk (by decide +kernel) | exact RegNo.mk (by kernel_rfl)) only [go_sem, seval, monoD, mulD]
    refine callC (mono_Degree ha hb hc) (LesV.refl _) rfl ?_
    simp (maxSteps := 3000000) (disch := first | exact trivial | assumption | omega | exact RegOk.mk (by decide +kernel) | exact RegCl.mk (by decide +kernel) | exact RegNo.mk (by kernel_rfl)) only [go_sem, seval, monoD, mulD]
    refine callC (mono_Degree ha' hb' hc') (LesV.refl _) rfl ?_
    simp (maxSteps := 3000000) (disch := first | exact trivial | assumption | omega | exact RegOk.mk (by decide +kernel) | exact RegCl.mk (by decide +kernel) | exact RegNo.mk (by kernel_rfl)) only [go_sem, seval, monoD, mulD, dg]
    refine callC mono_Divides (LesV.refl _) rfl ?_
    simp (maxSteps := 3000000) (disch := first | exact trivial | assumption | omega | exact RegOk.mk (by decide +kernel) | exact RegCl.mk (by decide +kernel) | exact RegNo.mk (by kernel_rfl)) only [go_sem, seval, monoD, mulD, d1]
    refine callC mono_Divides (LesV.refl _) rfl ?_
    simp (maxSteps := 3000000) (disch := first | exact trivial | assumption | omega | exact RegOk.mk (by decide +kernel) | exact RegCl.mk (by decide +kernel) | exact RegNo.mk (by kernel_rfl)) only [go_sem, seval, monoD, mulD, d2, f2, f4, pk, Nat.add_assoc]
    refine callC mono_Vars (LesV.refl _) rfl ?_
    simp (maxSteps := 3000000) (disch := first | exact trivial | assumption | omega | exact RegOk.mk (by decide +kernel) | exact RegCl.mk (by decide +kernel) | exact RegNo.mk (by kernel_rfl)) only [go_sem, seval, monoD, mulD]
    refine callC mono_Vars (LesV.refl _) rfl ?_
    simp (maxSteps := 3000000) (disch := first | exact trivial | assumption | omega | exact RegOk.mk (by decide +kernel) | exact RegCl.mk (by decide +kernel) | exact RegNo.mk (by kernel_rfl)) only [go_sem, seval, monoD, mulD]
    refine callC mono_Vars (LesV.refl _) rfl ?_
    simp (maxSteps := 3000000) (disch := first | exact trivial | assumption | omega | exact RegOk.mk (by decide +kernel) | exact RegCl.mk (by decide +kernel) | exact RegNo.mk (by kernel_rfl)) only [go_sem, seval, monoD, mulD, vr]
end Go.Proofs.Ytcckbbanhacblaa.Lv
