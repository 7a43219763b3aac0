/- Monomials: the reference, and two laws. -/
import Derived.Test.YtcckbbanhacblaaMH
import Derived.Test.YtcckbbanhacblaaME
set_option linter.unusedVariables false
set_option linter.unusedSimpArgs false
set_option maxRecDepth 100000
set_option maxHeartbeats 4000000
namespace Go.Proofs.Ytcckbbanhacblaa.Lv
open Go Go.RowKit

theorem ref_Degree {a b c : Nat} (ha : a < 256) (hb : b < 256) (hc : c < 256) : C E 14 [monoD a b c] (.int .i64 ((a + b + c : Nat) : Int)) := by
  refine CG_intro Try.func14 rfl (by kernel_rfl) rfl (by kernel_rfl) (by kernel_rfl) rfl ?_
  simp (maxSteps := 3000000) (disch := first | exact trivial | assumption | omega | exact RegOk.mk (by decide +kernel) | exact RegCl.mk (by decide +kernel) | exact RegNo.mk (by kernel_rfl)) only [go_sem, seval, monoD]
  exact LeV.of_eq (by congr 1)
theorem ref_MonoVars {a b c : Nat} : C E 16 [monoD a b c] (.int .i64 (vars a b c)) := by
  refine CG_intro Try.func16 rfl (by kernel_rfl) rfl (by kernel_rfl) (by kernel_rfl) rfl ?_
  simp (maxSteps := 3000000) (disch := first | exact trivial | assumption | omega | exact RegOk.mk (by decide +kernel) | exact RegCl.mk (by decide +kernel) | exact RegNo.mk (by kernel_rfl)) only [go_sem, seval, monoD]
  have e : ∀ n : Nat, ((n : Int) > 0) ↔ n > 0 := by intro n; omega
  by_cases h1 : (a : Int) > 0 <;> by_cases h2 : (b : Int) > 0 <;> by_cases h3 : (c : Int) > 0
  all_goals
    refine AL.step ?_
    simp (maxSteps := 3000000) (disch := first | exact trivial | assumption | omega | exact RegOk.mk (by decide +kernel) | exact RegCl.mk (by decide +kernel) | exact RegNo.mk (by kernel_rfl)) only [go_sem, seval, monoD, h1]
    refine AL.step ?_
    simp (maxSteps := 3000000) (disch := first | exact trivial | assumption | omega | exact RegOk.mk (by decide +kernel) | exact RegCl.mk (by decide +kernel) | exact RegNo.mk (by kernel_rfl)) only [go_sem, seval, monoD, h2]
    refine AL.step ?_
    simp (maxSteps := 3000000) (disch := first | exact trivial | assumption | omega | exact RegOk.mk (by decide +kernel) | exact RegCl.mk (by decide +kernel) | exact RegNo.mk (by kernel_rfl)) only [go_sem, seval, monoD, h3]
    refine AL.step ?_
    simp (maxSteps := 3000000) (disch := first | exact trivial | assumption | omega | exact RegOk.mk (by decide +kernel) | exact RegCl.mk (by decide +kernel) | exact RegNo.mk (by kernel_rfl)) only [go_sem, seval, monoD]
    refine LeV.of_eq ?_
    rw [e] at h1 h2 h3
    simp [vars, h1, h2, h3]
theorem ref_MonoCmp {a b c a' b' c' : Nat} (ha : a < 256) (hb : b < 256) (hc : c < 256) (ha' : a' < 256) (hb' : b' < 256) (hc' : c' < 256) : C E 17 [monoD a b c, monoD a' b' c'] (.int .i64 (mcmp a b c a' b' c')) := by
  refine CG_intro Try.func17 rfl (by kernel_rfl) rfl (by kernel_rfl) (by kernel_rfl) rfl ?_
  simp (maxSteps := 3000000) (disch := first | exact trivial | assumption | omega | exact RegOk.mk (by decide +kernel) | exact RegCl.mk (by decide +kernel) | exact RegNo.mk (by kernel_rfl)) only [go_sem, seval, monoD]
  refine callCl (ref_Degree ha hb hc) (LesV.refl _) rfl ?_
  simp (maxSteps := 3000000) (disch := first | exact trivial | assumption | omega | exact RegOk.mk (by decide +kernel) | exact RegCl.mk (by decide +kernel) | exact RegNo.mk (by kernel_rfl)) only [go_sem, seval, monoD]
  refine callCl (ref_Degree ha' hb' hc') (LesV.refl _) rfl ?_
  unfold mcmp
  generalize hd : ((a + b + c : Nat) : Int) = d
  generalize hd' : ((a' + b' + c' : Nat) : Int) = d'
  have one : ∀ x y : Int, x < y → ¬ y < x := by intro x y; omega
  rcases sg_cases d d' with ⟨h, e⟩ | ⟨h, e⟩ | ⟨h, e⟩
  · have hn : (d != d') = true := by simp; omega
    simp (maxSteps := 3000000) (disch := first | exact trivial | assumption | omega | exact RegOk.mk (by decide +kernel) | exact RegCl.mk (by decide +kernel) | exact RegNo.mk (by kernel_rfl)) only [go_sem, seval, monoD, hn]
    rw [← hd]
    refine callCl (ref_Degree ha hb hc) (LesV.refl _) rfl ?_
    simp (maxSteps := 3000000) (disch := first | exact trivial | assumption | omega | exact RegOk.mk (by decide +kernel) | exact RegCl.mk (by decide +kernel) | exact RegNo.mk (by kernel_rfl)) only [go_sem, seval, monoD]
    refine callCl (ref_Degree ha' hb' hc') (LesV.refl _) rfl ?_
    rw [hd, hd']
    simp (maxSteps := 3000000) (disch := first | exact trivial | assumption | omega | exact RegOk.mk (by decide +kernel) | exact RegCl.mk (by decide +kernel) | exact RegNo.mk (by kernel_rfl)) only [go_sem, seval, monoD, h]
    exact LeV.of_eq (by simp [e])
  · subst h
    rw [e]
    simp (maxSteps := 3000000) (disch := first | exact trivial | assumption | omega | exact RegOk.mk (by decide +kernel) | exact RegCl.mk (by decide +kernel) | exact RegNo.mk (by kernel_rfl)) only [go_sem, seval, monoD, show (d != d) = false by simp]
    refine AL.step ?_
    rcases sg_cases (a : Int) a' with ⟨h1, e1⟩ | ⟨h1, e1⟩ | ⟨h1, e1⟩
    · simp (maxSteps := 3000000) (disch := first | exact trivial | assumption | omega | exact RegOk.mk (by decide +kernel) | exact RegCl.mk (by decide +kernel) | exact RegNo.mk (by kernel_rfl)) only [go_sem, seval, monoD, h1]
      exact LeV.of_eq (by simp [lex, e1])
    · simp (maxSteps := 3000000) (disch := first | exact trivial | assumption | omega | exact RegOk.mk (by decide +kernel) | exact RegCl.mk (by decide +kernel) | exact RegNo.mk (by kernel_rfl)) only [go_sem, seval, monoD, show ¬ (a : Int) < a' by omega, show ¬ (a : Int) > a' by omega]
      refine AL.step ?_
      rcases sg_cases (b : Int) b' with ⟨h2, e2⟩ | ⟨h2, e2⟩ | ⟨h2, e2⟩
      · simp (maxSteps := 3000000) (disch := first | exact trivial | assumption | omega | exact RegOk.mk (by decide +kernel) | exact RegCl.mk (by decide +kernel) | exact RegNo.mk (by kernel_rfl)) only [go_sem, seval, monoD, h2]
        exact LeV.of_eq (by simp [lex, e1, e2])
      · simp (maxSteps := 3000000) (disch := first | exact trivial | assumption | omega | exact RegOk.mk (by decide +kernel) | exact RegCl.mk (by decide +kernel) | exact RegNo.mk (by kernel_rfl)) only [go_sem, seval, monoD, show ¬ (b : Int) < b' by omega, show ¬ (b : Int) > b' by omega]
        refine AL.step ?_
        rcases sg_cases (c : Int) c' with ⟨h3, e3⟩ | ⟨h3, e3⟩ | ⟨h3, e3⟩
        · simp (maxSteps := 3000000) (disch := first | exact trivial | assumption | omega | exact RegOk.mk (by decide +kernel) | exact RegCl.mk (by decide +kernel) | exact RegNo.mk (by kernel_rfl)) only [go_sem, seval, monoD, h3]
          exact LeV.of_eq (by first | (exfalso; omega) | simp [lex, e1, e2, e3])
        · simp (maxSteps := 3000000) (disch := first | exact trivial | assumption | omega | exact RegOk.mk (by decide +kernel) | exact RegCl.mk (by decide +kernel) | exact RegNo.mk (by kernel_rfl)) only [go_sem, seval, monoD, show ¬ (c : Int) < c' by omega, show ¬ (c : Int) > c' by omega]
          refine AL.step ?_
          simp (maxSteps := 3000000) (disch := first | exact trivial | assumption | omega | exact RegOk.mk (by decide +kernel) | exact RegCl.mk (by decide +kernel) | exact RegNo.mk (by kernel_rfl)) only [go_sem, seval, monoD]
          exact LeV.of_eq (by first | (exfalso; omega) | simp [lex, e1, e2, e3])
        · simp (maxSteps := 3000000) (disch := first | exact trivial | assumption | omega | exact RegOk.mk (by decide +kernel) | exact RegCl.mk (by decide +kernel) | exact RegNo.mk (by kernel_rfl)) only [go_sem, seval, monoD, show ¬ (c : Int) < c' by omega, show (c : Int) > c' by omega]
          exact LeV.of_eq (by first | (exfalso; omega) | simp [lex, e1, e2, e3])
      · simp (maxSteps := 3000000) (disch := first | exact trivial | assumption | omega | exact RegOk.mk (by decide +kernel) | exact RegCl.mk (by decide +kernel) | exact RegNo.mk (by kernel_rfl)) only [go_sem, seval, monoD, show ¬ (b : Int) < b' by omega, show (b : Int) > b' by omega]
        exact LeV.of_eq (by simp [lex, e1, e2])
    · simp (maxSteps := 3000000) (disch := first | exact trivial | assumption | omega | exact RegOk.mk (by decide +kernel) | exact RegCl.mk (by decide +kernel) | exact RegNo.mk (by kernel_rfl)) only [go_sem, seval, monoD, show ¬ (a : Int) < a' by omega, show (a : Int) > a' by omega]
      exact LeV.of_eq (by simp [lex, e1])
  · have hn : (d != d') = true := by simp; omega
    simp (maxSteps := 3000000) (disch := first | exact trivial | assumption | omega | exact RegOk.mk (by decide +kernel) | exact RegCl.mk (by decide +kernel) | exact RegNo.mk (by kernel_rfl)) only [go_sem, seval, monoD, hn]
    rw [← hd]
    refine callCl (ref_Degree ha hb hc) (LesV.refl _) rfl ?_
    simp (maxSteps := 3000000) (disch := first | exact trivial | assumption | omega | exact RegOk.mk (by decide +kernel) | exact RegCl.mk (by decide +kernel) | exact RegNo.mk (by kernel_rfl)) only [go_sem, seval, monoD]
    refine callCl (ref_Degree ha' hb' hc') (LesV.refl _) rfl ?_
    rw [hd, hd']
    simp (maxSteps := 3000000) (disch := first | exact trivial | assumption | omega | exact RegOk.mk (by decide +kernel) | exact RegCl.mk (by decide +kernel) | exact RegNo.mk (by kernel_rfl)) only [go_sem, seval, monoD, show ¬ d < d' by omega]
    exact LeV.of_eq (by simp [e])
theorem ref_MonoMul {a b c a' b' c' : Nat} (ha : a < 256) (hb : b < 256) (hc : c < 256) (ha' : a' < 256) (hb' : b' < 256) (hc' : c' < 256) : C E 12 [monoD a b c, monoD a' b' c'] (.tup [mulD a b c a' b' c', .bool (fit a b c a' b' c')]) := by
  refine CG_intro Try.func12 rfl (by kernel_rfl) rfl (by kernel_rfl) (by kernel_rfl) rfl ?_
  simp (maxSteps := 3000000) (disch := first | exact trivial | assumption | omega | exact RegOk.mk (by decide +kernel) | exact RegCl.mk (by decide +kernel) | exact RegNo.mk (by kernel_rfl)) only [go_sem, seval, monoD]
  refine AL.step ?_
  by_cases h1 : (a : Int) + a' > 255
  · simp (maxSteps := 3000000) (disch := first | exact trivial | assumption | omega | exact RegOk.mk (by decide +kernel) | exact RegCl.mk (by decide +kernel) | exact RegNo.mk (by kernel_rfl)) only [go_sem, seval, monoD, h1]
    refine LeV.of_eq ?_
    have : fit a b c a' b' c' = false := by simp [fit]; omega
    simp [mulD, pk, this, monoD]
  simp (maxSteps := 3000000) (disch := first | exact trivial | assumption | omega | exact RegOk.mk (by decide +kernel) | exact RegCl.mk (by decide +kernel) | exact RegNo.mk (by kernel_rfl)) only [go_sem, seval, monoD, h1]
  refine AL.step ?_
  by_cases h2 : (b : Int) + b' > 255
  · simp (maxSteps := 3000000) (disch := first | exact trivial | assumption | omega | exact RegOk.mk (by decide +kernel) | exact RegCl.mk (by decide +kernel) | exact RegNo.mk (by kernel_rfl)) only [go_sem, seval, monoD, h2]
    refine LeV.of_eq ?_
    have : fit a b c a' b' c' = false := by simp [fit]; omega
    simp [mulD, pk, this, monoD]
  simp (maxSteps := 3000000) (disch := first | exact trivial | assumption | omega | exact RegOk.mk (by decide +kernel) | exact RegCl.mk (by decide +kernel) | exact RegNo.mk (by kernel_rfl)) only [go_sem, seval, monoD, h2]
  refine AL.step ?_
  by_cases h3 : (c : Int) + c' > 255
  · simp (maxSteps := 3000000) (disch := first | exact trivial | assumption | omega | exact RegOk.mk (by decide +kernel) | exact RegCl.mk (by decide +kernel) | exact RegNo.mk (by kernel_rfl)) only [go_sem, seval, monoD, h3]
    refine LeV.of_eq ?_
    have : fit a b c a' b' c' = false := by simp [fit]; omega
    simp [mulD, pk, this, monoD]
  simp (maxSteps := 3000000) (disch := first | exact trivial | assumption | omega | exact RegOk.mk (by decide +kernel) | exact RegCl.mk (by decide +kernel) | exact RegNo.mk (by kernel_rfl)) only [go_sem, seval, monoD, h3]
  refine AL.step ?_
  simp (maxSteps := 3000000) (disch := first | exact trivial | assumption | omega | exact RegOk.mk (by decide +kernel) | exact RegCl.mk (by decide +kernel) | exact RegNo.mk (by kernel_rfl)) only [go_sem, seval, monoD]
  refine LeV.of_eq ?_
  have : fit a b c a' b' c' = true := by simp [fit]; omega
  simp [mulD, pk, this, monoD]
end Go.Proofs.Ytcckbbanhacblaa.Lv
