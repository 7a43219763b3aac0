/- The reference's table: fraction, prime. -/
import Derived.Test.YtpobbfhdkbnpmaaDoorFE
set_option linter.unusedVariables false
set_option linter.unusedSimpArgs false
set_option maxRecDepth 100000
set_option maxHeartbeats 4000000
namespace Go.Proofs.YtpobbfhdkbnpmaaDoor.Lv
open Go Go.RowKit

def powk (k y : Nat) : Nat := if k = 3 then y * y * y else y * y
def frG (p k x i : Nat) : Nat := if powk k (x + 2 ^ i) ≤ p * 2 ^ (32 * k) then x + 2 ^ i else x
def fr (p k : Nat) : Nat → Nat
  | 0 => 0
  | j + 1 => frG p k (fr p k j) (36 - j)
theorem fr_lt (p k : Nat) : ∀ j, j ≤ 37 → fr p k j + 2 ^ (37 - j) ≤ 137438953472
  | 0, _ => by simp [fr]
  | j + 1, h => by
    have ih := fr_lt p k j (by omega)
    have e : 2 ^ (37 - j) = 2 ^ (36 - j) * 2 := by rw [← Nat.pow_succ]; congr 1; omega
    rw [show 37 - (j + 1) = 36 - j by omega]
    rw [fr, frG]
    split <;> omega
theorem nb_small {n : Nat} (h : n < 340282366920938463463374607431768211456) : nb n < 1073741824 := by
  have := (nb_lt (n := n) (k := 4)).2 (by omega)
  omega
theorem cmpI_le {a b : Nat} : cmpI a b ≤ 0 ↔ a ≤ b := by
  unfold cmpI
  by_cases h1 : a < b
  · rw [if_pos h1]; omega
  · rw [if_neg h1]
    by_cases h2 : b < a
    · rw [if_pos h2]; omega
    · rw [if_neg h2]; omega
theorem r2_fraction {p k : Nat} (hp : p < 1024) (hk : k = 2 ∨ k = 3) : C E 44 [.int .u64 p, .int .i64 k] (.int .u32 (fr p k 37 % 4294967296 : Nat)) := by
  refine CG_intro Tryd.func44 rfl (by kernel_rfl) rfl (by kernel_rfl) (by kernel_rfl) rfl ?_
  have hlim : p * 2 ^ (32 * k) < 340282366920938463463374607431768211456 := by rcases hk with rfl | rfl <;> omega
  simp (maxSteps := 3000000) (disch := first | exact trivial | assumption | omega | exact RegOk.mk (by decide +kernel) | exact RegCl.mk (by decide +kernel) | exact RegNo.mk (by kernel_rfl)) only [go_sem, seval]
  refine callC (r1_NatOf (v := 0) (by omega)) (LesV.refl _) (cl_nD _) ?_
  simp (maxSteps := 3000000) (disch := first | exact trivial | assumption | omega | exact RegOk.mk (by decide +kernel) | exact RegCl.mk (by decide +kernel) | exact RegNo.mk (by kernel_rfl)) only [go_sem, seval]
  refine callC (r1_NatOf (v := p) (by omega)) (LesV.refl _) (cl_nD _) ?_
  simp (maxSteps := 3000000) (disch := first | exact trivial | assumption | omega | exact RegOk.mk (by decide +kernel) | exact RegCl.mk (by decide +kernel) | exact RegNo.mk (by kernel_rfl)) only [go_sem, seval]
  refine callC (r1_Shl (a := p) (n := 32 * k) (nb_small (by omega)) (by omega)) ?_ (cl_nD _) ?_
  · simp (maxSteps := 3000000) (disch := first | exact trivial | assumption | omega | exact RegOk.mk (by decide +kernel) | exact RegCl.mk (by decide +kernel) | exact RegNo.mk (by kernel_rfl)) only [go_sem, seval]
    rw [Int.natCast_mul]; exact LesV.refl _
  simp (maxSteps := 3000000) (disch := first | exact trivial | assumption | omega | exact RegOk.mk (by decide +kernel) | exact RegCl.mk (by decide +kernel) | exact RegNo.mk (by kernel_rfl)) only [go_sem, seval]
  refine AL.of (fun j : Nat => j ≤ 37) (fun j => 37 - j) (fun j => [(0, .int .u64 p), (1, .int .i64 k), (5, nD (fr p k j)), (6, nD (p * 2 ^ (32 * k))), (7, .int .i64 (36 - (j : Int)))]) (fun _ => []) 0 (by omega) ?_ ?_ ?_ ?_
  · simp (maxSteps := 3000000) (disch := first | exact trivial | assumption | omega | exact RegOk.mk (by decide +kernel) | exact RegCl.mk (by decide +kernel) | exact RegNo.mk (by kernel_rfl)) only [go_sem, seval, fr]
  · simp (maxSteps := 3000000) (disch := first | exact trivial | assumption | omega | exact RegOk.mk (by decide +kernel) | exact RegCl.mk (by decide +kernel) | exact RegNo.mk (by kernel_rfl)) only [go_sem, seval]
  · intro x _; simp (maxSteps := 3000000) (disch := first | exact trivial | assumption | omega | exact RegOk.mk (by decide +kernel) | exact RegCl.mk (by decide +kernel) | exact RegNo.mk (by kernel_rfl)) only [go_sem, seval]
  intro j hj
  have hf : fr p k j < 137438953472 := by
    have := fr_lt p k j hj
    have := Nat.two_pow_pos (37 - j)
    omega
  by_cases h : j = 37
  · subst h
    simp (maxSteps := 3000000) (disch := first | exact trivial | assumption | omega | exact RegOk.mk (by decide +kernel) | exact RegCl.mk (by decide +kernel) | exact RegNo.mk (by kernel_rfl)) only [go_sem, seval]
    refine callC (r1_Low (nb_small (by omega))) (LesV.refl _) rfl ?_
    simp (maxSteps := 3000000) (disch := first | exact trivial | assumption | omega | exact RegOk.mk (by decide +kernel) | exact RegCl.mk (by decide +kernel) | exact RegNo.mk (by kernel_rfl)) only [go_sem, seval, bits_low]
    exact LeV.of_eq (by congr 1; omega)
  have hi : (36 : Int) - (j : Int) = ((36 - j : Nat) : Int) := by omega
  have hd : decide (0 ≤ (36 : Int) - (j : Int)) = true := by rw [decide_eq_true_eq]; omega
  have hpw : 2 ^ (36 - j) ≤ 68719476736 := by
    have := Nat.pow_le_pow_right (n := 2) (by omega) (show 36 - j ≤ 36 by omega)
    omega
  simp (maxSteps := 3000000) (disch := first | exact trivial | assumption | omega | exact RegOk.mk (by decide +kernel) | exact RegCl.mk (by decide +kernel) | exact RegNo.mk (by kernel_rfl)) only [go_sem, seval, hd]
  refine callC (r1_NatOf (v := 1) (by omega)) (LesV.refl _) (cl_nD _) ?_
  simp (maxSteps := 3000000) (disch := first | exact trivial | assumption | omega | exact RegOk.mk (by decide +kernel) | exact RegCl.mk (by decide +kernel) | exact RegNo.mk (by kernel_rfl)) only [go_sem, seval]
  refine callC (r1_Shl (a := 1) (n := 36 - j) (nb_small (by omega)) (by omega)) ?_ (cl_nD _) ?_
  · simp (maxSteps := 3000000) (disch := first | exact trivial | assumption | omega | exact RegOk.mk (by decide +kernel) | exact RegCl.mk (by decide +kernel) | exact RegNo.mk (by kernel_rfl)) only [go_sem, seval, hi]
  rw [Nat.one_mul]
  simp (maxSteps := 3000000) (disch := first | exact trivial | assumption | omega | exact RegOk.mk (by decide +kernel) | exact RegCl.mk (by decide +kernel) | exact RegNo.mk (by kernel_rfl)) only [go_sem, seval]
  refine callC (r1_Add (a := fr p k j) (b := 2 ^ (36 - j)) (nb_small (by omega)) (nb_small (by omega))) (LesV.refl _) (cl_nD _) ?_
  simp (maxSteps := 3000000) (disch := first | exact trivial | assumption | omega | exact RegOk.mk (by decide +kernel) | exact RegCl.mk (by decide +kernel) | exact RegNo.mk (by kernel_rfl)) only [go_sem, seval]
  have hst : fr p k (j + 1) = if powk k (fr p k j + 2 ^ (36 - j)) ≤ p * 2 ^ (32 * k) then fr p k j + 2 ^ (36 - j) else fr p k j := rfl
  have hy : fr p k j + 2 ^ (36 - j) < 274877906944 := by omega
  generalize fr p k j + 2 ^ (36 - j) = y at *
  have hyy : y * y < 75557863725914323419136 := Nat.mul_lt_mul'' hy hy
  refine callC (r1_Mul (a := y) (b := y) (nb_small (by omega)) (nb_small (by omega))) (LesV.refl _) (cl_nD _) ?_
  rcases hk with rfl | rfl
  · simp (maxSteps := 3000000) (disch := first | exact trivial | assumption | omega | exact RegOk.mk (by decide +kernel) | exact RegCl.mk (by decide +kernel) | exact RegNo.mk (by kernel_rfl)) only [go_sem, seval]
    have hst' : fr p 2 (j + 1) = if y * y ≤ p * 18446744073709551616 then y else fr p 2 j := by rw [hst]; rfl
    clear hst
    refine callC (r1_Cmp (a := y * y) (b := p * 18446744073709551616) (nb_small (by omega)) (nb_small (by omega))) (LesV.refl _) rfl ?_
    by_cases hc : y * y ≤ p * 18446744073709551616
    · rw [if_pos hc] at hst'
      have hcm : decide (cmpI (y * y) (p * 18446744073709551616) ≤ 0) = true := decide_eq_true (cmpI_le.2 hc)
      simp (maxSteps := 3000000) (disch := first | exact trivial | assumption | omega | exact RegOk.mk (by decide +kernel) | exact RegCl.mk (by decide +kernel) | exact RegNo.mk (by kernel_rfl)) only [go_sem, seval, hcm]
      refine ⟨j + 1, by omega, by show 37 - (j + 1) < 37 - j; omega, ?_, ?_⟩
      · simp (maxSteps := 3000000) (disch := first | exact trivial | assumption | omega | exact RegOk.mk (by decide +kernel) | exact RegCl.mk (by decide +kernel) | exact RegNo.mk (by kernel_rfl)) only [go_sem, seval, hst']
        exact LeV.of_eq (by congr 1; omega)
      · simp (maxSteps := 3000000) (disch := first | exact trivial | assumption | omega | exact RegOk.mk (by decide +kernel) | exact RegCl.mk (by decide +kernel) | exact RegNo.mk (by kernel_rfl)) only [go_sem, seval]
    · rw [if_neg hc] at hst'
      have hcm : decide (cmpI (y * y) (p * 18446744073709551616) ≤ 0) = false := decide_eq_false (mt cmpI_le.1 hc)
      simp (maxSteps := 3000000) (disch := first | exact trivial | assumption | omega | exact RegOk.mk (by decide +kernel) | exact RegCl.mk (by decide +kernel) | exact RegNo.mk (by kernel_rfl)) only [go_sem, seval, hcm]
      refine ⟨j + 1, by omega, by show 37 - (j + 1) < 37 - j; omega, ?_, ?_⟩
      · simp (maxSteps := 3000000) (disch := first | exact trivial | assumption | omega | exact RegOk.mk (by decide +kernel) | exact RegCl.mk (by decide +kernel) | exact RegNo.mk (by kernel_rfl)) only [go_sem, seval, hst']
        exact LeV.of_eq (by congr 1; omega)
      · simp (maxSteps := 3000000) (disch := first | exact trivial | assumption | omega | exact RegOk.mk (by decide +kernel) | exact RegCl.mk (by decide +kernel) | exact RegNo.mk (by kernel_rfl)) only [go_sem, seval]
  · simp (maxSteps := 3000000) (disch := first | exact trivial | assumption | omega | exact RegOk.mk (by decide +kernel) | exact RegCl.mk (by decide +kernel) | exact RegNo.mk (by kernel_rfl)) only [go_sem, seval]
    have hyyy : y * y * y < 75557863725914323419136 * 274877906944 := Nat.mul_lt_mul'' hyy hy
    refine callC (r1_Mul (a := y * y) (b := y) (nb_small (by omega)) (nb_small (by omega))) (LesV.refl _) (cl_nD _) ?_
    simp (maxSteps := 3000000) (disch := first | exact trivial | assumption | omega | exact RegOk.mk (by decide +kernel) | exact RegCl.mk (by decide +kernel) | exact RegNo.mk (by kernel_rfl)) only [go_sem, seval]
    have hst' : fr p 3 (j + 1) = if y * y * y ≤ p * 79228162514264337593543950336 then y else fr p 3 j := by rw [hst]; rfl
    clear hst
    refine callC (r1_Cmp (a := y * y * y) (b := p * 79228162514264337593543950336) (nb_small (by omega)) (nb_small (by omega))) (LesV.refl _) rfl ?_
    by_cases hc : y * y * y ≤ p * 79228162514264337593543950336
    · rw [if_pos hc] at hst'
      have hcm : decide (cmpI (y * y * y) (p * 79228162514264337593543950336) ≤ 0) = true := decide_eq_true (cmpI_le.2 hc)
      simp (maxSteps := 3000000) (disch := first | exact trivial | assumption | omega | exact RegOk.mk (by decide +kernel) | exact RegCl.mk (by decide +kernel) | exact RegNo.mk (by kernel_rfl)) only [go_sem, seval, hcm]
      refine ⟨j + 1, by omega, by show 37 - (j + 1) < 37 - j; omega, ?_, ?_⟩
      · simp (maxSteps := 3000000) (disch := first | exact trivial | assumption | omega | exact RegOk.mk (by decide +kernel) | exact RegCl.mk (by decide +kernel) | exact RegNo.mk (by kernel_rfl)) only [go_sem, seval, hst']
        exact LeV.of_eq (by congr 1; omega)
      · simp (maxSteps := 3000000) (disch := first | exact trivial | assumption | omega | exact RegOk.mk (by decide +kernel) | exact RegCl.mk (by decide +kernel) | exact RegNo.mk (by kernel_rfl)) only [go_sem, seval]
    · rw [if_neg hc] at hst'
      have hcm : decide (cmpI (y * y * y) (p * 79228162514264337593543950336) ≤ 0) = false := decide_eq_false (mt cmpI_le.1 hc)
      simp (maxSteps := 3000000) (disch := first | exact trivial | assumption | omega | exact RegOk.mk (by decide +kernel) | exact RegCl.mk (by decide +kernel) | exact RegNo.mk (by kernel_rfl)) only [go_sem, seval, hcm]
      refine ⟨j + 1, by omega, by show 37 - (j + 1) < 37 - j; omega, ?_, ?_⟩
      · simp (maxSteps := 3000000) (disch := first | exact trivial | assumption | omega | exact RegOk.mk (by decide +kernel) | exact RegCl.mk (by decide +kernel) | exact RegNo.mk (by kernel_rfl)) only [go_sem, seval, hst']
        exact LeV.of_eq (by congr 1; omega)
      · simp (maxSteps := 3000000) (disch := first | exact trivial | assumption | omega | exact RegOk.mk (by decide +kernel) | exact RegCl.mk (by decide +kernel) | exact RegNo.mk (by kernel_rfl)) only [go_sem, seval]
end Go.Proofs.YtpobbfhdkbnpmaaDoor.Lv
