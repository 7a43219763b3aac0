/- Monomials: products, and what goes into what. -/
import Derived.Test.YtcckbbanhacblaaMF
set_option linter.unusedVariables false
set_option linter.unusedSimpArgs false
set_option maxRecDepth 100000
set_option maxHeartbeats 4000000
namespace Go.Proofs.Ytcckbbanhacblaa.Lv
open Go Go.RowKit

def fit (a b c a' b' c' : Nat) : Bool := decide (a + a' ≤ 255 ∧ b + b' ≤ 255 ∧ c + c' ≤ 255)
def pk (f : Bool) (n : Nat) : Nat := if f = true then n else 0
def mulD (a b c a' b' c' : Nat) : D := monoD (pk (fit a b c a' b' c') (a + a')) (pk (fit a b c a' b' c') (b + b')) (pk (fit a b c a' b' c') (c + c'))
theorem mono_Mul {a b c a' b' c' : Nat} (ha : a < 256) (hb : b < 256) (hc : c < 256) (ha' : a' < 256) (hb' : b' < 256) (hc' : c' < 256) : C E 10 [monoD a b c, monoD a' b' c'] (.tup [mulD a b c a' b' c', .bool (fit a b c a' b' c')]) := by
  refine CG_intro Try.func10 rfl (by kernel_rfl) rfl (by kernel_rfl) (by kernel_rfl) rfl ?_
  simp (maxSteps := 3000000) (disch := first | exact trivial | assumption | omega | exact RegOk.mk (by decide +kernel) | exact RegCl.mk (by decide +kernel) | exact RegNo.mk (by kernel_rfl)) only [go_sem, seval, monoD]
  refine AL.step ?_
  by_cases h1 : (a : Int) + a' > 255
  · simp (maxSteps := 3000000) (disch := first | exact trivial | assumption | omega | exact RegOk.mk (by decide +kernel) | exact RegCl.mk (by decide +kernel) | exact RegNo.mk (by kernel_rfl)) only [go_sem, seval, monoD, h1]
    refine LeV.of_eq ?_
    have : fit a b c a' b' c' = false := by simp [fit]; omega
    simp [mulD, pk, this, monoD]
  simp (maxSteps := 3000000) (disch := first | exact trivial | assumption | omega | exact RegOk.mk (by decide +kernel) | exact RegCl.mk (by decide +kernel) | exact RegNo.mk (by kernel_rfl)) only [go_sem, seval, monoD, h1]
  refine AL.step ?_
  by_cases h2 : (b : Int) + b' > 255
  · simp (maxSteps := 3000000) (disch := first | exact trivial | assumption | omega | exact RegOk.mk (by decide +kernel) | exact RegCl.mk (by decide +kernel) | exact RegNo.mk (by kernel_rfl)) only [go_sem, seval, monoD, h2]
    refine LeV.of_eq ?_
    have : fit a b c a' b' c' = false := by simp [fit]; omega
    simp [mulD, pk, this, monoD]
  simp (maxSteps := 3000000) (disch := first | exact trivial | assumption | omega | exact RegOk.mk (by decide +kernel) | exact RegCl.mk (by decide +kernel) | exact RegNo.mk (by kernel_rfl)) only [go_sem, seval, monoD, h2]
  refine AL.step ?_
  by_cases h3 : (c : Int) + c' > 255
  · simp (maxSteps := 3000000) (disch := first | exact trivial | assumption | omega | exact RegOk.mk (by decide +kernel) | exact RegCl.mk (by decide +kernel) | exact RegNo.mk (by kernel_rfl)) only [go_sem, seval, monoD, h3]
    refine LeV.of_eq ?_
    have : fit a b c a' b' c' = false := by simp [fit]; omega
    simp [mulD, pk, this, monoD]
  simp (maxSteps := 3000000) (disch := first | exact trivial | assumption | omega | exact RegOk.mk (by decide +kernel) | exact RegCl.mk (by decide +kernel) | exact RegNo.mk (by kernel_rfl)) only [go_sem, seval, monoD, h3]
  refine AL.step ?_
  simp (maxSteps := 3000000) (disch := first | exact trivial | assumption | omega | exact RegOk.mk (by decide +kernel) | exact RegCl.mk (by decide +kernel) | exact RegNo.mk (by kernel_rfl)) only [go_sem, seval, monoD]
  refine LeV.of_eq ?_
  have : fit a b c a' b' c' = true := by simp [fit]; omega
  simp [mulD, pk, this, monoD]
def divs (a b c a' b' c' : Nat) : Bool := decide (a ≤ a' ∧ b ≤ b' ∧ c ≤ c')
theorem mono_Divides {a b c a' b' c' : Nat} : C E 11 [monoD a b c, monoD a' b' c'] (.bool (divs a b c a' b' c')) := by
  refine CG_intro Try.func11 rfl (by kernel_rfl) rfl (by kernel_rfl) (by kernel_rfl) rfl ?_
  simp (maxSteps := 3000000) (disch := first | exact trivial | assumption | omega | exact RegOk.mk (by decide +kernel) | exact RegCl.mk (by decide +kernel) | exact RegNo.mk (by kernel_rfl)) only [go_sem, seval, monoD]
  refine AL.step ?_
  by_cases h1 : (a : Int) > a'
  · simp (maxSteps := 3000000) (disch := first | exact trivial | assumption | omega | exact RegOk.mk (by decide +kernel) | exact RegCl.mk (by decide +kernel) | exact RegNo.mk (by kernel_rfl)) only [go_sem, seval, monoD, h1]
    refine LeV.of_eq ?_
    simp [divs]; omega
  simp (maxSteps := 3000000) (disch := first | exact trivial | assumption | omega | exact RegOk.mk (by decide +kernel) | exact RegCl.mk (by decide +kernel) | exact RegNo.mk (by kernel_rfl)) only [go_sem, seval, monoD, h1]
  refine AL.step ?_
  by_cases h2 : (b : Int) > b'
  · simp (maxSteps := 3000000) (disch := first | exact trivial | assumption | omega | exact RegOk.mk (by decide +kernel) | exact RegCl.mk (by decide +kernel) | exact RegNo.mk (by kernel_rfl)) only [go_sem, seval, monoD, h2]
    refine LeV.of_eq ?_
    simp [divs]; omega
  simp (maxSteps := 3000000) (disch := first | exact trivial | assumption | omega | exact RegOk.mk (by decide +kernel) | exact RegCl.mk (by decide +kernel) | exact RegNo.mk (by kernel_rfl)) only [go_sem, seval, monoD, h2]
  refine AL.step ?_
  by_cases h3 : (c : Int) > c'
  · simp (maxSteps := 3000000) (disch := first | exact trivial | assumption | omega | exact RegOk.mk (by decide +kernel) | exact RegCl.mk (by decide +kernel) | exact RegNo.mk (by kernel_rfl)) only [go_sem, seval, monoD, h3]
    refine LeV.of_eq ?_
    simp [divs]; omega
  simp (maxSteps := 3000000) (disch := first | exact trivial | assumption | omega | exact RegOk.mk (by decide +kernel) | exact RegCl.mk (by decide +kernel) | exact RegNo.mk (by kernel_rfl)) only [go_sem, seval, monoD, h3]
  refine AL.step ?_
  simp (maxSteps := 3000000) (disch := first | exact trivial | assumption | omega | exact RegOk.mk (by decide +kernel) | exact RegCl.mk (by decide +kernel) | exact RegNo.mk (by kernel_rfl)) only [go_sem, seval, monoD]
  refine LeV.of_eq ?_
  simp [divs]; omega
theorem law7_alive : C E 9 [] (.bool true) := by
  refine CG_intro Try.func9 rfl (by kernel_rfl) rfl (by kernel_rfl) (by kernel_rfl) rfl ?_
  simp (maxSteps := 3000000) (disch := first | exact trivial | assumption | omega | exact RegOk.mk (by decide +kernel) | exact RegCl.mk (by decide +kernel) | exact RegNo.mk (by kernel_rfl)) only [go_sem, seval]
  refine callC (mono_Cmp (a := 0) (b := 1) (c := 0) (a' := 1) (b' := 0) (c' := 0) (by omega) (by omega) (by omega) (by omega) (by omega) (by omega)) (LesV.refl _) rfl ?_
  simp (maxSteps := 3000000) (disch := first | exact trivial | assumption | omega | exact RegOk.mk (by decide +kernel) | exact RegCl.mk (by decide +kernel) | exact RegNo.mk (by kernel_rfl)) only [go_sem, seval, show mcmp 0 1 0 1 0 0 = -1 from rfl]
  refine callC (mono_Degree (a := 1) (b := 2) (c := 3) (by omega) (by omega) (by omega)) (LesV.refl _) rfl ?_
  simp (maxSteps := 3000000) (disch := first | exact trivial | assumption | omega | exact RegOk.mk (by decide +kernel) | exact RegCl.mk (by decide +kernel) | exact RegNo.mk (by kernel_rfl)) only [go_sem, seval]
end Go.Proofs.Ytcckbbanhacblaa.Lv
