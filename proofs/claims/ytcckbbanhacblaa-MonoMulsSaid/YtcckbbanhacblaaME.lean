/- Monomials: the last variable. -/
import Derived.Test.YtcckbbanhacblaaMB
import Derived.Test.YtcckbbanhacblaaBW8
set_option linter.unusedVariables false
set_option linter.unusedSimpArgs false
set_option maxRecDepth 100000
set_option maxHeartbeats 4000000
namespace Go.Proofs.Ytcckbbanhacblaa.Lv
open Go Go.RowKit

theorem backward_u8 (d : D) (hd : cl d = true) : CG E 23 [.vs 0 0 1 3] [(0, .var true 3 d)] (.fn 27 [.ad 1 0]) [(0, .var true 3 d), (1, .var false 1 (.vs 0 0 1 3))] := by
  refine CG_intro Try.func23 rfl (by kernel_rfl) rfl (by kernel_rfl) (by kernel_rfl) rfl ?_
  simp (maxSteps := 3000000) (disch := first | exact trivial | assumption | omega | exact RegOk.mk (by decide +kernel) | exact RegCl.mk (by decide +kernel) | exact RegNo.mk (by kernel_rfl)) only [go_sem, seval, cl_imp _ _ d hd]
def vars (a b c : Nat) : Nat := if c > 0 then 3 else if b > 0 then 2 else if a > 0 then 1 else 0
theorem mono_Vars {a b c : Nat} : C E 15 [monoD a b c] (.int .i64 (vars a b c)) := by
  refine CG_intro Try.func15 rfl (by kernel_rfl) rfl (by kernel_rfl) (by kernel_rfl) rfl ?_
  simp (maxSteps := 3000000) (disch := first | exact trivial | assumption | omega | exact RegOk.mk (by decide +kernel) | exact RegCl.mk (by decide +kernel) | exact RegNo.mk (by kernel_rfl)) only [go_sem, seval, monoD]
  refine callG [0] (backward_u8 (monoD a b c) rfl) rfl (by simp (maxSteps := 3000000) (disch := first | exact trivial | assumption | omega | exact RegOk.mk (by decide +kernel) | exact RegCl.mk (by decide +kernel) | exact RegNo.mk (by kernel_rfl)) only [go_sem, seval]) ?_ ?_ ?_
  · simp (maxSteps := 3000000) (disch := first | exact trivial | assumption | omega | exact RegOk.mk (by decide +kernel) | exact RegCl.mk (by decide +kernel) | exact RegNo.mk (by kernel_rfl)) only [go_sem, seval]
  · simp (maxSteps := 3000000) (disch := first | exact trivial | assumption | omega | exact RegOk.mk (by decide +kernel) | exact RegCl.mk (by decide +kernel) | exact RegNo.mk (by kernel_rfl)) only [go_sem, seval, monoD]
  simp (maxSteps := 3000000) (disch := first | exact trivial | assumption | omega | exact RegOk.mk (by decide +kernel) | exact RegCl.mk (by decide +kernel) | exact RegNo.mk (by kernel_rfl)) only [go_sem, seval, monoD]
  refine AB.of 27 3 (fun k : Nat => k ≤ 3 ∧ (k ≤ 2 → c = 0) ∧ (k ≤ 1 → b = 0) ∧ (k ≤ 0 → a = 0)) (fun k => k) (fun _ => [(1, .ad 0 0), (2, .ad 1 0), (6, .fn 27 [.ad 3 0])])
    (fun _ => [(3, .var false 1 (.vs 0 0 1 3)), (1, .var false 1 (.int .i64 0)), (0, .var true 3 (.agg [.int .u8 a, .int .u8 b, .int .u8 c]))]) 3 bw_u8 ⟨by omega, by omega, by omega, by omega⟩ ?_ ?_ ?_ (y := .vs 0 0 1 3) ?_ ?_ (by omega) ?_ ?_ ?_
  · simp (maxSteps := 3000000) (disch := first | exact trivial | assumption | omega | exact RegOk.mk (by decide +kernel) | exact RegCl.mk (by decide +kernel) | exact RegNo.mk (by kernel_rfl)) only [go_sem, seval, monoD]
  · simp (maxSteps := 3000000) (disch := first | exact trivial | assumption | omega | exact RegOk.mk (by decide +kernel) | exact RegCl.mk (by decide +kernel) | exact RegNo.mk (by kernel_rfl)) only [go_sem, seval, monoD]
  · simp (maxSteps := 3000000) (disch := first | exact trivial | assumption | omega | exact RegOk.mk (by decide +kernel) | exact RegCl.mk (by decide +kernel) | exact RegNo.mk (by kernel_rfl)) only [go_sem, seval, monoD]
  · simp (maxSteps := 3000000) (disch := first | exact trivial | assumption | omega | exact RegOk.mk (by decide +kernel) | exact RegCl.mk (by decide +kernel) | exact RegNo.mk (by kernel_rfl)) only [go_sem, seval, monoD]
  · simp (maxSteps := 3000000) (disch := first | exact trivial | assumption | omega | exact RegOk.mk (by decide +kernel) | exact RegCl.mk (by decide +kernel) | exact RegNo.mk (by kernel_rfl)) only [go_sem, seval, monoD]
  · intro x' _; simp (maxSteps := 3000000) (disch := first | exact trivial | assumption | omega | exact RegOk.mk (by decide +kernel) | exact RegCl.mk (by decide +kernel) | exact RegNo.mk (by kernel_rfl)) only [go_sem, seval, monoD]
  · rintro x' ⟨_, h2, h3, h4⟩ rfl
    simp (maxSteps := 3000000) (disch := first | exact trivial | assumption | omega | exact RegOk.mk (by decide +kernel) | exact RegCl.mk (by decide +kernel) | exact RegNo.mk (by kernel_rfl)) only [go_sem, seval, monoD]
    refine LeV.of_eq ?_
    simp [vars, h2, h3, h4]
  · rintro x' k ⟨h1, h2, h3, h4⟩ hk rfl
    have hk3 : k = 0 ∨ k = 1 ∨ k = 2 := by omega
    rcases hk3 with rfl | rfl | rfl
    · by_cases h : (a : Int) > 0
      · refine ⟨.vs 0 0 1 3, .int .u8 a, rfl, rfl, ?_⟩
        simp (maxSteps := 3000000) (disch := first | exact trivial | assumption | omega | exact RegOk.mk (by decide +kernel) | exact RegCl.mk (by decide +kernel) | exact RegNo.mk (by kernel_rfl)) only [go_sem, seval, monoD, h]
        refine LeV.of_eq ?_
        have e1 := h2 (by omega); have e2 := h3 (by omega)
        have : 0 < a := by omega
        simp [vars, e1, e2, this]
      · refine ⟨.vs 0 0 1 3, .int .u8 a, rfl, rfl, ?_⟩
        simp (maxSteps := 3000000) (disch := first | exact trivial | assumption | omega | exact RegOk.mk (by decide +kernel) | exact RegCl.mk (by decide +kernel) | exact RegNo.mk (by kernel_rfl)) only [go_sem, seval, monoD, h]
        refine BGo.of 0 (by simp (maxSteps := 3000000) (disch := first | exact trivial | assumption | omega | exact RegOk.mk (by decide +kernel) | exact RegCl.mk (by decide +kernel) | exact RegNo.mk (by kernel_rfl)) only [go_sem, seval]) ⟨by omega, fun _ => h2 (by omega), fun _ => h3 (by omega), by omega⟩ rfl (by simp [mx]) ?_ ?_
        · simp (maxSteps := 3000000) (disch := first | exact trivial | assumption | omega | exact RegOk.mk (by decide +kernel) | exact RegCl.mk (by decide +kernel) | exact RegNo.mk (by kernel_rfl)) only [go_sem, seval, monoD]
        · simp (maxSteps := 3000000) (disch := first | exact trivial | assumption | omega | exact RegOk.mk (by decide +kernel) | exact RegCl.mk (by decide +kernel) | exact RegNo.mk (by kernel_rfl)) only [go_sem, seval, monoD]
    · by_cases h : (b : Int) > 0
      · refine ⟨.vs 0 0 1 3, .int .u8 b, rfl, rfl, ?_⟩
        simp (maxSteps := 3000000) (disch := first | exact trivial | assumption | omega | exact RegOk.mk (by decide +kernel) | exact RegCl.mk (by decide +kernel) | exact RegNo.mk (by kernel_rfl)) only [go_sem, seval, monoD, h]
        refine LeV.of_eq ?_
        have e1 := h2 (by omega)
        have : 0 < b := by omega
        simp [vars, e1, this]
      · refine ⟨.vs 0 0 1 3, .int .u8 b, rfl, rfl, ?_⟩
        simp (maxSteps := 3000000) (disch := first | exact trivial | assumption | omega | exact RegOk.mk (by decide +kernel) | exact RegCl.mk (by decide +kernel) | exact RegNo.mk (by kernel_rfl)) only [go_sem, seval, monoD, h]
        refine BGo.of 1 (by simp (maxSteps := 3000000) (disch := first | exact trivial | assumption | omega | exact RegOk.mk (by decide +kernel) | exact RegCl.mk (by decide +kernel) | exact RegNo.mk (by kernel_rfl)) only [go_sem, seval]) ⟨by omega, fun _ => h2 (by omega), by omega, by omega⟩ rfl (by simp [mx]) ?_ ?_
        · simp (maxSteps := 3000000) (disch := first | exact trivial | assumption | omega | exact RegOk.mk (by decide +kernel) | exact RegCl.mk (by decide +kernel) | exact RegNo.mk (by kernel_rfl)) only [go_sem, seval, monoD]
        · simp (maxSteps := 3000000) (disch := first | exact trivial | assumption | omega | exact RegOk.mk (by decide +kernel) | exact RegCl.mk (by decide +kernel) | exact RegNo.mk (by kernel_rfl)) only [go_sem, seval, monoD]
    · by_cases h : (c : Int) > 0
      · refine ⟨.vs 0 0 1 3, .int .u8 c, rfl, rfl, ?_⟩
        simp (maxSteps := 3000000) (disch := first | exact trivial | assumption | omega | exact RegOk.mk (by decide +kernel) | exact RegCl.mk (by decide +kernel) | exact RegNo.mk (by kernel_rfl)) only [go_sem, seval, monoD, h]
        refine LeV.of_eq ?_
        have : 0 < c := by omega
        simp [vars, this]
      · refine ⟨.vs 0 0 1 3, .int .u8 c, rfl, rfl, ?_⟩
        simp (maxSteps := 3000000) (disch := first | exact trivial | assumption | omega | exact RegOk.mk (by decide +kernel) | exact RegCl.mk (by decide +kernel) | exact RegNo.mk (by kernel_rfl)) only [go_sem, seval, monoD, h]
        refine BGo.of 2 (by simp (maxSteps := 3000000) (disch := first | exact trivial | assumption | omega | exact RegOk.mk (by decide +kernel) | exact RegCl.mk (by decide +kernel) | exact RegNo.mk (by kernel_rfl)) only [go_sem, seval]) ⟨by omega, by omega, by omega, by omega⟩ rfl (by simp [mx]) ?_ ?_
        · simp (maxSteps := 3000000) (disch := first | exact trivial | assumption | omega | exact RegOk.mk (by decide +kernel) | exact RegCl.mk (by decide +kernel) | exact RegNo.mk (by kernel_rfl)) only [go_sem, seval, monoD]
        · simp (maxSteps := 3000000) (disch := first | exact trivial | assumption | omega | exact RegOk.mk (by decide +kernel) | exact RegCl.mk (by decide +kernel) | exact RegNo.mk (by kernel_rfl)) only [go_sem, seval, monoD]
end Go.Proofs.Ytcckbbanhacblaa.Lv
