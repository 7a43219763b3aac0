/- The reference's numbers: trim, NatOf. -/
import Derived.Test.YtpobbfhdkbnpmaaDoorE
import Derived.Test.YtpobbfhdkbnpmaaDoorNa
set_option linter.unusedVariables false
set_option linter.unusedSimpArgs false
set_option maxRecDepth 100000
set_option maxHeartbeats 4000000
namespace Go.Proofs.YtpobbfhdkbnpmaaDoor.Lv
open Go Go.RowKit

def nD (n : Nat) : D := u32s (limbs n)
section
variable (n : Nat) (h : Hp) (ρ : Nat → Option Nat) (r : Nat → Nat)
theorem cl_nD : cl (nD n) = true := Eq.trans rfl rfl
theorem flat_nD : flat (nD n) = false := Eq.trans rfl rfl
theorem imp_nD : imp ρ h (nD n) = nD n := Eq.trans rfl rfl
theorem refs_nD : refs ρ (nD n) = [] := Eq.trans rfl rfl
theorem one_nD : one h (nD n) = true := Eq.trans rfl rfl
theorem exD_nD : exD r (nD n) = nD n := Eq.trans rfl rfl
end
attribute [go_sem] cl_nD flat_nD imp_nD refs_nD one_nD exD_nD
theorem r1_trim {l : List Nat} (hl : lows l) (hn : l.length < 4611686018427387904) : C E 67 [u32s l] (nD (val l)) := by
  refine CG_intro Tryd.func67 rfl (by kernel_rfl) rfl (by kernel_rfl) (by kernel_rfl) rfl ?_
  simp (maxSteps := 3000000) (disch := first | exact trivial | assumption | omega | exact RegOk.mk (by decide +kernel) | exact RegCl.mk (by decide +kernel) | exact RegNo.mk (by kernel_rfl)) only [go_sem, seval, u32s]
  refine AL.of (fun k : Nat => k ≤ l.length ∧ val (l.take k) = val l) (fun k => k) (fun k => [(0, u32s l), (3, .int .i64 k)]) (fun _ => []) l.length ⟨by omega, by simp⟩ ?_ ?_ ?_ ?_
  · simp (maxSteps := 3000000) (disch := first | exact trivial | assumption | omega | exact RegOk.mk (by decide +kernel) | exact RegCl.mk (by decide +kernel) | exact RegNo.mk (by kernel_rfl)) only [go_sem, seval, u32s]
  · simp (maxSteps := 3000000) (disch := first | exact trivial | assumption | omega | exact RegOk.mk (by decide +kernel) | exact RegCl.mk (by decide +kernel) | exact RegNo.mk (by kernel_rfl)) only [go_sem, seval, u32s]
  · intro x _; simp (maxSteps := 3000000) (disch := first | exact trivial | assumption | omega | exact RegOk.mk (by decide +kernel) | exact RegCl.mk (by decide +kernel) | exact RegNo.mk (by kernel_rfl)) only [go_sem, seval]
  rintro k ⟨h1, h2⟩
  have fin : (∀ j, j + 1 = k → l.getD j 0 ≠ 0) → LeV (.ro false 1 k fun i => .int .u32 ((l.getD i 0 : Nat) : Int)) (nD (val l)) := fun h3 => by
    have e : limbs (val l) = l.take k := by
      rw [← h2]
      refine limbs_val (hl.take k) fun j hj => ?_
      rw [List.length_take] at hj
      rw [getD_take (by omega)]
      exact h3 j (by omega)
    unfold nD u32s
    rw [e]
    refine LeV.ro (by rw [List.length_take]; omega) fun i hi => Le.of_eq ?_
    rw [getD_take hi]
  by_cases hk : 0 < (k : Int)
  · obtain ⟨j, rfl⟩ : ∃ j, k = j + 1 := ⟨k - 1, by omega⟩
    have ej : (((j + 1 : Nat) : Int) - 1).toNat = j := by omega
    have hd : decide (0 < ((j + 1 : Nat) : Int)) = true := by rw [decide_eq_true_eq]; omega
    by_cases h0 : l.getD j 0 = 0
    · have hb : (((l.getD j 0 : Nat) : Int) == 0) = true := by rw [h0]; rfl
      simp (maxSteps := 3000000) (disch := first | exact trivial | assumption | omega | exact RegOk.mk (by decide +kernel) | exact RegCl.mk (by decide +kernel) | exact RegNo.mk (by kernel_rfl)) only [go_sem, seval, u32s, hd, ej, hb]
      refine ⟨j, ⟨by omega, by rw [← val_take (by omega) h0]; exact h2⟩, Nat.lt_succ_self j, ?_, ?_⟩
      · simp (maxSteps := 3000000) (disch := first | exact trivial | assumption | omega | exact RegOk.mk (by decide +kernel) | exact RegCl.mk (by decide +kernel) | exact RegNo.mk (by kernel_rfl)) only [go_sem, seval]
        exact LeV.of_eq (by congr 1; omega)
      · simp (maxSteps := 3000000) (disch := first | exact trivial | assumption | omega | exact RegOk.mk (by decide +kernel) | exact RegCl.mk (by decide +kernel) | exact RegNo.mk (by kernel_rfl)) only [go_sem, seval]
    · have hb : (((l.getD j 0 : Nat) : Int) == 0) = false := by rw [beq_eq_false_iff_ne]; omega
      simp (maxSteps := 3000000) (disch := first | exact trivial | assumption | omega | exact RegOk.mk (by decide +kernel) | exact RegCl.mk (by decide +kernel) | exact RegNo.mk (by kernel_rfl)) only [go_sem, seval, u32s, hd, ej, hb]
      exact fin fun j' hj' => by
        obtain rfl : j' = j := by omega
        exact h0
  · have hd : decide (0 < (k : Int)) = false := by rw [decide_eq_false_iff_not]; omega
    simp (maxSteps := 3000000) (disch := first | exact trivial | assumption | omega | exact RegOk.mk (by decide +kernel) | exact RegCl.mk (by decide +kernel) | exact RegNo.mk (by kernel_rfl)) only [go_sem, seval, u32s, hd]
    exact fin fun j hj => by omega
end Go.Proofs.YtpobbfhdkbnpmaaDoor.Lv
