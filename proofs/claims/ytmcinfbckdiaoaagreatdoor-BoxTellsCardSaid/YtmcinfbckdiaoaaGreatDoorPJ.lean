/- The program's numbers: Clone, Low. -/
import Derived.Test.YtmcinfbckdiaoaaGreatDoorPH
set_option linter.unusedVariables false
set_option linter.unusedSimpArgs false
set_option maxRecDepth 100000
set_option maxHeartbeats 4000000
namespace Go.Proofs.YtmcinfbckdiaoaaGreatDoor.Lv
open Go Go.RowKit

theorem clone_u32 {l : List Nat} (h0 : l ≠ []) (hn : l.length < 1073741824) : CG E 137 [u32s l] [] (.sl 0 1 0 l.length) [(0, .row false 1 false 1 l.length (lR l))] := by
  refine CG_intro Tryz.func137 rfl (by kernel_rfl) rfl (by kernel_rfl) (by kernel_rfl) rfl ?_
  have hp := List.length_pos_iff.2 h0
  simp (maxSteps := 3000000) (disch := first | exact trivial | assumption | omega | exact RegOk.mk (by decide +kernel) | exact RegCl.mk (by decide +kernel) | exact RegNo.mk (by kernel_rfl)) only [go_sem, seval, u32s]
  intro b hb
  obtain rfl : b = false := by
    cases b with
    | false => rfl
    | true => have := hb rfl; omega
  rw [KE_eq]
  simp (maxSteps := 3000000) (disch := first | exact trivial | assumption | omega | exact RegOk.mk (by decide +kernel) | exact RegCl.mk (by decide +kernel) | exact RegNo.mk (by kernel_rfl)) only [go_sem, seval, u32s]
  refine ⟨.inl trivial, .inr trivial, by omega, by omega, ?_⟩
  exact fun i hi => Le.refl _
theorem nat_Low {n : Nat} (hn : nb n < 1073741824) : C E 136 [natD n] (.int .u64 ((n % 18446744073709551616 : Nat) : Int)) := by
  refine CG_intro Tryz.func136 rfl (by kernel_rfl) rfl (by kernel_rfl) (by kernel_rfl) rfl ?_
  unfold nb at hn
  have hv := val_limbs n
  have hl := limbs_low n
  have g0 := hl.getD 0
  have g1 := hl.getD 1
  have hm : ∀ k : Nat, min (k : Int) 2 = ((min k 2 : Nat) : Int) := fun k => by omega
  have hend : val ((limbs n).take (min (limbs n).length 2)) = n % 18446744073709551616 := by
    by_cases h2 : 2 ≤ (limbs n).length
    · rw [show min (limbs n).length 2 = 2 by omega]
      have h3 := val_cut (limbs n) 2 h2
      have h4 := val_ltB (lows_take hl 2)
      rw [List.length_take, Nat.min_eq_left h2, show (4294967296 : Nat) ^ 2 = 18446744073709551616 from rfl] at h4
      rw [hv, show (4294967296 : Nat) ^ 2 = 18446744073709551616 from rfl] at h3
      generalize val ((limbs n).take 2) = a at *
      generalize val ((limbs n).drop 2) = b at *
      clear hv hl g0 g1
      omega
    · rw [show min (limbs n).length 2 = (limbs n).length by omega, List.take_length, hv, Nat.mod_eq_of_lt]
      have h3 := (nb_lt (n := n) (k := 1)).1 (by unfold nb; omega)
      rw [Nat.pow_one] at h3
      omega
  rw [← hend]
  have s0 := val_take_succ (limbs n) 0
  have s1 := val_take_succ (limbs n) 1
  rw [List.take_zero, Nat.pow_zero, Nat.one_mul, Nat.zero_add] at s0
  simp only [val, Nat.zero_add] at s0
  rw [s0, Nat.pow_one] at s1
  clear hend hv hl
  simp (maxSteps := 3000000) (disch := first | exact trivial | assumption | omega | exact RegOk.mk (by decide +kernel) | exact RegCl.mk (by decide +kernel) | exact RegNo.mk (by kernel_rfl)) only [go_sem, seval, natD, u32s, hm]
  generalize limbs n = l at *
  refine AL.of (fun i : Nat => i ≤ min l.length 2) (fun i => min l.length 2 - i)
    (fun i => [(1, .ad 0 0), (3, .int .u64 (val (l.take i))), (8, .int .i64 ((min l.length 2 : Nat) : Int)), (9, .int .i64 i)]) (fun _ => [(0, .var true 1 (.agg [u32s l]))]) 0 (by omega) ?_ ?_ ?_ ?_
  · simp (maxSteps := 3000000) (disch := first | exact trivial | assumption | omega | exact RegOk.mk (by decide +kernel) | exact RegCl.mk (by decide +kernel) | exact RegNo.mk (by kernel_rfl)) only [go_sem, seval, u32s]
    exact LeV.of_eq (by rw [show val [] = 0 from rfl]; rfl)
  · simp (maxSteps := 3000000) (disch := first | exact trivial | assumption | omega | exact RegOk.mk (by decide +kernel) | exact RegCl.mk (by decide +kernel) | exact RegNo.mk (by kernel_rfl)) only [go_sem, seval, u32s]
  · intro x _; simp (maxSteps := 3000000) (disch := first | exact trivial | assumption | omega | exact RegOk.mk (by decide +kernel) | exact RegCl.mk (by decide +kernel) | exact RegNo.mk (by kernel_rfl)) only [go_sem, seval]
  intro i hi
  by_cases hil : i = min l.length 2
  · subst hil
    simp (maxSteps := 3000000) (disch := first | exact trivial | assumption | omega | exact RegOk.mk (by decide +kernel) | exact RegCl.mk (by decide +kernel) | exact RegNo.mk (by kernel_rfl)) only [go_sem, seval]
  have hi' : i < min l.length 2 := by omega
  rcases (show i = 0 ∨ i = 1 by omega) with rfl | rfl
  · have e3 : bits .u64 .or 0 (((l.getD 0 0 : Nat)) : Int) = ((l.getD 0 0 : Nat) : Int) := by
      have := bits_or 0 (l.getD 0 0) (by omega) (by omega)
      simpa using this
    have z : ((val (l.take 0) : Nat) : Int) = 0 := rfl
    have hlen : 1 ≤ min l.length 2 := by omega
    clear s1
    generalize hx : l.getD 0 0 = x at *
    simp (maxSteps := 3000000) (disch := first | exact trivial | assumption | omega | exact RegOk.mk (by decide +kernel) | exact RegCl.mk (by decide +kernel) | exact RegNo.mk (by kernel_rfl)) only [go_sem, seval, u32s, z, hx, Int.mul_one, e3, List.take_zero, show val [] = 0 from rfl]
    refine ⟨1, hlen, by show min l.length 2 - 1 < min l.length 2 - 0; omega, ?_, ?_⟩
    · simp (maxSteps := 3000000) (disch := first | exact trivial | assumption | omega | exact RegOk.mk (by decide +kernel) | exact RegCl.mk (by decide +kernel) | exact RegNo.mk (by kernel_rfl)) only [go_sem, seval, s0]
    · simp (maxSteps := 3000000) (disch := first | exact trivial | assumption | omega | exact RegOk.mk (by decide +kernel) | exact RegCl.mk (by decide +kernel) | exact RegNo.mk (by kernel_rfl)) only [go_sem, seval, u32s]
  · have e3 : bits .u64 .or ((l.getD 0 0 : Nat) : Int) (((l.getD 1 0 : Nat) : Int) * 4294967296) = ((l.getD 0 0 + 4294967296 * l.getD 1 0 : Nat) : Int) := by
      have h1 := bits_or (l.getD 0 0) (l.getD 1 0 * 4294967296) (by omega) (by omega)
      have h2 := or_add 32 (l.getD 1 0) (l.getD 0 0) (by omega)
      rw [Nat.mul_comm] at h2
      rw [h2, Int.natCast_mul] at h1
      rw [Nat.mul_comm 4294967296]
      exact h1
    have hlen : 2 ≤ min l.length 2 := by omega
    generalize hx : l.getD 0 0 = x at *
    generalize hy : l.getD 1 0 = y at *
    simp (maxSteps := 3000000) (disch := first | exact trivial | assumption | omega | exact RegOk.mk (by decide +kernel) | exact RegCl.mk (by decide +kernel) | exact RegNo.mk (by kernel_rfl)) only [go_sem, seval, u32s, s0, hy, e3]
    refine ⟨2, hlen, by show min l.length 2 - 2 < min l.length 2 - 1; omega, ?_, ?_⟩
    · simp (maxSteps := 3000000) (disch := first | exact trivial | assumption | omega | exact RegOk.mk (by decide +kernel) | exact RegCl.mk (by decide +kernel) | exact RegNo.mk (by kernel_rfl)) only [go_sem, seval, s1]
    · simp (maxSteps := 3000000) (disch := first | exact trivial | assumption | omega | exact RegOk.mk (by decide +kernel) | exact RegCl.mk (by decide +kernel) | exact RegNo.mk (by kernel_rfl)) only [go_sem, seval, u32s]
end Go.Proofs.YtmcinfbckdiaoaaGreatDoor.Lv
