/- Monomials: arrays compared. -/
import Derived.Test.YtcckbbanhacblaaMC
set_option linter.unusedVariables false
set_option linter.unusedSimpArgs false
set_option maxRecDepth 100000
set_option maxHeartbeats 4000000
namespace Go.Proofs.Ytcckbbanhacblaa.Lv
open Go Go.RowKit

def sg (x y : Int) : Int := if x < y then -1 else if x > y then 1 else 0
def lex : List (Int × Int) → Int
  | [] => 0
  | (x, y) :: r => if sg x y ≠ 0 then sg x y else lex r
theorem slices_Compare (a b c a' b' c' : Nat) : CG E 22 [.vs 0 0 1 3, .vs 1 0 1 3] [(0, .var true 3 (monoD a b c)), (1, .var true 3 (monoD a' b' c'))]
    (.int .i64 (lex [(a, a'), (b, b'), (c, c')])) [(0, .var true 3 (monoD a b c)), (1, .var true 3 (monoD a' b' c'))] := by
  refine CG_intro Try.func22 rfl (by kernel_rfl) rfl (by kernel_rfl) (by kernel_rfl) rfl ?_
  simp (maxSteps := 3000000) (disch := first | exact trivial | assumption | omega | exact RegOk.mk (by decide +kernel) | exact RegCl.mk (by decide +kernel) | exact RegNo.mk (by kernel_rfl)) only [go_sem, seval, monoD]
  refine AL.step ?_
  simp (maxSteps := 3000000) (disch := first | exact trivial | assumption | omega | exact RegOk.mk (by decide +kernel) | exact RegCl.mk (by decide +kernel) | exact RegNo.mk (by kernel_rfl)) only [go_sem, seval, monoD]
  refine callC (cmp_u8 _ _) (LesV.refl _) rfl ?_
  rw [show (if ((a : Nat) : Int) < (a' : Nat) then -1 else if ((a : Nat) : Int) > (a' : Nat) then 1 else 0) = sg a a' from rfl]
  by_cases h1 : sg a a' = 0
  case neg =>
    have hb : (sg a a' != 0) = true := by simpa using h1
    simp (maxSteps := 3000000) (disch := first | exact trivial | assumption | omega | exact RegOk.mk (by decide +kernel) | exact RegCl.mk (by decide +kernel) | exact RegNo.mk (by kernel_rfl)) only [go_sem, seval, monoD, hb]
    refine LeV.of_eq ?_
    simp [lex, h1]
  have b1 : (sg a a' != 0) = false := by simpa using h1
  simp (maxSteps := 3000000) (disch := first | exact trivial | assumption | omega | exact RegOk.mk (by decide +kernel) | exact RegCl.mk (by decide +kernel) | exact RegNo.mk (by kernel_rfl)) only [go_sem, seval, monoD, b1]
  refine AL.step ?_
  simp (maxSteps := 3000000) (disch := first | exact trivial | assumption | omega | exact RegOk.mk (by decide +kernel) | exact RegCl.mk (by decide +kernel) | exact RegNo.mk (by kernel_rfl)) only [go_sem, seval, monoD]
  refine callC (cmp_u8 _ _) (LesV.refl _) rfl ?_
  rw [show (if ((b : Nat) : Int) < (b' : Nat) then -1 else if ((b : Nat) : Int) > (b' : Nat) then 1 else 0) = sg b b' from rfl]
  by_cases h2 : sg b b' = 0
  case neg =>
    have hb : (sg b b' != 0) = true := by simpa using h2
    simp (maxSteps := 3000000) (disch := first | exact trivial | assumption | omega | exact RegOk.mk (by decide +kernel) | exact RegCl.mk (by decide +kernel) | exact RegNo.mk (by kernel_rfl)) only [go_sem, seval, monoD, hb]
    refine LeV.of_eq ?_
    simp [lex, h1, h2]
  have b2 : (sg b b' != 0) = false := by simpa using h2
  simp (maxSteps := 3000000) (disch := first | exact trivial | assumption | omega | exact RegOk.mk (by decide +kernel) | exact RegCl.mk (by decide +kernel) | exact RegNo.mk (by kernel_rfl)) only [go_sem, seval, monoD, b2]
  refine AL.step ?_
  simp (maxSteps := 3000000) (disch := first | exact trivial | assumption | omega | exact RegOk.mk (by decide +kernel) | exact RegCl.mk (by decide +kernel) | exact RegNo.mk (by kernel_rfl)) only [go_sem, seval, monoD]
  refine callC (cmp_u8 _ _) (LesV.refl _) rfl ?_
  rw [show (if ((c : Nat) : Int) < (c' : Nat) then -1 else if ((c : Nat) : Int) > (c' : Nat) then 1 else 0) = sg c c' from rfl]
  by_cases h3 : sg c c' = 0
  case neg =>
    have hb : (sg c c' != 0) = true := by simpa using h3
    simp (maxSteps := 3000000) (disch := first | exact trivial | assumption | omega | exact RegOk.mk (by decide +kernel) | exact RegCl.mk (by decide +kernel) | exact RegNo.mk (by kernel_rfl)) only [go_sem, seval, monoD, hb]
    refine LeV.of_eq ?_
    simp [lex, h1, h2, h3]
  have b3 : (sg c c' != 0) = false := by simpa using h3
  simp (maxSteps := 3000000) (disch := first | exact trivial | assumption | omega | exact RegOk.mk (by decide +kernel) | exact RegCl.mk (by decide +kernel) | exact RegNo.mk (by kernel_rfl)) only [go_sem, seval, monoD, b3]
  refine AL.step ?_
  simp (maxSteps := 3000000) (disch := first | exact trivial | assumption | omega | exact RegOk.mk (by decide +kernel) | exact RegCl.mk (by decide +kernel) | exact RegNo.mk (by kernel_rfl)) only [go_sem, seval, monoD]
  refine LeV.of_eq ?_
  simp [lex, h1, h2, h3]
end Go.Proofs.Ytcckbbanhacblaa.Lv
