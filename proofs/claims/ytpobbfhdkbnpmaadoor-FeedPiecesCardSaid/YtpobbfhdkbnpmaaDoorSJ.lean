/- Law 17: ShaPieces. -/
import Derived.Test.YtpobbfhdkbnpmaaDoorSH
set_option linter.unusedVariables false
set_option linter.unusedSimpArgs false
set_option maxRecDepth 100000
set_option maxHeartbeats 4000000
namespace Go.Proofs.YtpobbfhdkbnpmaaDoor.Lv
open Go Go.RowKit

theorem tmod_pos (n k : Int) (hk : 0 < k) : n % k = if n.tmod k < 0 then n.tmod k + k else n.tmod k := by
  have h1 := Int.lt_tmod_of_pos n hk
  have h2 := Int.tmod_lt_of_pos n hk
  have h3 : n % k = n.tmod k % k := by
    conv => lhs; rw [← Int.tmod_add_mul_tdiv n k]
    rw [Int.add_mul_emod_self_left]
  rw [h3]
  split
  · rw [← Int.add_emod_right, Int.emod_eq_of_lt (by omega) (by omega)]
  · rw [Int.emod_eq_of_lt (by omega) (by omega)]
def within (n lo hi : Int) : Int := lo + n % (hi - lo + 1)
theorem book_Within (n lo hi : Int) (h0 : 0 ≤ lo) (h1 : lo ≤ hi) (h2 : hi < 1099511627776) (hn : -9223372036854775808 ≤ n ∧ n ≤ 9223372036854775807) : C E 20 [.int .i64 n, .int .i64 lo, .int .i64 hi] (.int .i64 (within n lo hi)) := by
  refine CG_intro Tryd.func20 rfl (by kernel_rfl) rfl (by kernel_rfl) (by kernel_rfl) rfl ?_
  have hm : 0 < hi - lo + 1 := by omega
  have hz : hi - lo + 1 ≠ 0 := by omega
  have e1 := Int.emod_nonneg n hz
  have e2 := Int.emod_lt_of_pos n hm
  have e3 := Int.lt_tmod_of_pos n hm
  have e4 := Int.tmod_lt_of_pos n hm
  have e5 := tmod_pos n _ hm
  by_cases h : n.tmod (hi - lo + 1) < 0
  · rw [if_pos h] at e5
    have hd : decide (n.tmod (hi - lo + 1) < 0) = true := decide_eq_true h
    simp (maxSteps := 3000000) (disch := first | exact trivial | assumption | omega | exact RegOk.mk (by decide +kernel) | exact RegCl.mk (by decide +kernel) | exact RegNo.mk (by kernel_rfl)) only [go_sem, seval, hd]
    exact LeV.of_eq (by rw [within, e5])
  · rw [if_neg h] at e5
    have hd : decide (n.tmod (hi - lo + 1) < 0) = false := decide_eq_false h
    simp (maxSteps := 3000000) (disch := first | exact trivial | assumption | omega | exact RegOk.mk (by decide +kernel) | exact RegCl.mk (by decide +kernel) | exact RegNo.mk (by kernel_rfl)) only [go_sem, seval, hd]
    exact LeV.of_eq (by rw [within, e5])
theorem within_nat (n : Int) (lo hi : Nat) (h : lo ≤ hi) : ∃ i : Nat, within n lo hi = (i : Int) ∧ lo ≤ i ∧ i ≤ hi := by
  have e1 := Int.emod_nonneg n (show ((hi : Int) - lo + 1) ≠ 0 by omega)
  have e2 := Int.emod_lt_of_pos n (show 0 < ((hi : Int) - lo + 1) by omega)
  exact ⟨(within n lo hi).toNat, by unfold within; omega, by unfold within; omega, by unfold within; omega⟩
theorem sha_length (s : List UInt8) : (sha s).length = 32 := outs_len _ 8 (by omega)
theorem sha_SumX (l : List (List UInt8)) (s : List UInt8) (hs : l.flatten = s) (h : l.length ≤ 140737488355328) (hl : s.length < 1099511627776) : C E 14 [.ro false 1 l.length (tR l)] (.str (sha s)) := by
  subst hs; exact sha_Sum l h hl
theorem law_ShaPieces (b : List UInt8) (cut to : Int) (hc : -9223372036854775808 ≤ cut ∧ cut ≤ 9223372036854775807) (ht : -9223372036854775808 ≤ to ∧ to ≤ 9223372036854775807) : C E 4 [.str b, .int .i64 cut, .int .i64 to] (.bool true) := by
  refine CG_intro Tryd.func4 rfl (by kernel_rfl) rfl (by kernel_rfl) (by kernel_rfl) rfl ?_
  simp (maxSteps := 3000000) (disch := first | exact trivial | assumption | omega | exact RegOk.mk (by decide +kernel) | exact RegCl.mk (by decide +kernel) | exact RegNo.mk (by kernel_rfl)) only [go_sem, seval]
  refine callC law17_alive (LesV.refl _) rfl ?_
  simp (maxSteps := 3000000) (disch := first | exact trivial | assumption | omega | exact RegOk.mk (by decide +kernel) | exact RegCl.mk (by decide +kernel) | exact RegNo.mk (by kernel_rfl)) only [go_sem, seval]
  by_cases h1 : 3000 < b.length
  · have h1' : decide ((3000 : Int) < (b.length : Int)) = true := by rw [decide_eq_true_eq]; omega
    simp (maxSteps := 3000000) (disch := first | exact trivial | assumption | omega | exact RegOk.mk (by decide +kernel) | exact RegCl.mk (by decide +kernel) | exact RegNo.mk (by kernel_rfl)) only [go_sem, seval, h1']
  have h1' : decide ((3000 : Int) < (b.length : Int)) = false := by rw [decide_eq_false_iff_not]; omega
  obtain ⟨i, hi, _, hi2⟩ := within_nat cut 0 b.length (by omega)
  obtain ⟨k, hk, hk1, hk2⟩ := within_nat to i b.length hi2
  simp (maxSteps := 3000000) (disch := first | exact trivial | assumption | omega | exact RegOk.mk (by decide +kernel) | exact RegCl.mk (by decide +kernel) | exact RegNo.mk (by kernel_rfl)) only [go_sem, seval, h1']
  refine callC (book_Within cut 0 b.length (by omega) (by omega) (by omega) hc) (LesV.refl _) rfl ?_
  rw [show within cut 0 b.length = (i : Int) from hi]
  simp (maxSteps := 3000000) (disch := first | exact trivial | assumption | omega | exact RegOk.mk (by decide +kernel) | exact RegCl.mk (by decide +kernel) | exact RegNo.mk (by kernel_rfl)) only [go_sem, seval]
  refine callC (book_Within to i b.length (by omega) (by omega) (by omega) ht) (LesV.refl _) rfl ?_
  rw [hk]
  simp (maxSteps := 3000000) (disch := first | exact trivial | assumption | omega | exact RegOk.mk (by decide +kernel) | exact RegCl.mk (by decide +kernel) | exact RegNo.mk (by kernel_rfl)) only [go_sem, seval]
  have hl : b.length < 1099511627776 := by omega
  refine callC (sha_SumX [b] b (by simp) (by simp) hl) ?_ rfl ?_
  · simp (maxSteps := 3000000) (disch := first | exact trivial | assumption | omega | exact RegOk.mk (by decide +kernel) | exact RegCl.mk (by decide +kernel) | exact RegNo.mk (by kernel_rfl)) only [go_sem, seval]
    refine LesV_row fun j hj => ?_
    obtain rfl : j = 0 := by omega
    rfl
  simp (maxSteps := 3000000) (disch := first | exact trivial | assumption | omega | exact RegOk.mk (by decide +kernel) | exact RegCl.mk (by decide +kernel) | exact RegNo.mk (by kernel_rfl)) only [go_sem, seval, sha_length]
  refine callCl (sha_SumX [b.take i, b.drop i] b (by simp) (by simp) hl) ?_ rfl ?_
  · simp (maxSteps := 3000000) (disch := first | exact trivial | assumption | omega | exact RegOk.mk (by decide +kernel) | exact RegCl.mk (by decide +kernel) | exact RegNo.mk (by kernel_rfl)) only [go_sem, seval]
    refine LesV_row fun j hj => ?_
    rw [List.take_length]
    rcases (show j = 0 ∨ j = 1 by omega) with rfl | rfl <;> rfl
  simp (maxSteps := 3000000) (disch := first | exact trivial | assumption | omega | exact RegOk.mk (by decide +kernel) | exact RegCl.mk (by decide +kernel) | exact RegNo.mk (by kernel_rfl)) only [go_sem, seval]
  have e3 : [b.take i, [], (b.take k).drop i, b.drop k].flatten = b := by
    have : b.take i ++ (b.take k).drop i = b.take k := by
      conv => lhs; lhs; rw [show i = min i k by omega, ← List.take_take]
      exact List.take_append_drop i (b.take k)
    simp only [List.flatten_cons, List.flatten_nil, List.append_nil, List.nil_append]
    rw [← List.append_assoc, this, List.take_append_drop]
  refine callCl (sha_SumX [b.take i, [], (b.take k).drop i, b.drop k] b e3 (by simp) hl) ?_ rfl ?_
  · simp (maxSteps := 3000000) (disch := first | exact trivial | assumption | omega | exact RegOk.mk (by decide +kernel) | exact RegCl.mk (by decide +kernel) | exact RegNo.mk (by kernel_rfl)) only [go_sem, seval]
    refine LesV_row fun j hj => ?_
    rw [List.take_length]
    rcases (show j = 0 ∨ j = 1 ∨ j = 2 ∨ j = 3 by omega) with rfl | rfl | rfl | rfl <;> rfl
  simp (maxSteps := 3000000) (disch := first | exact trivial | assumption | omega | exact RegOk.mk (by decide +kernel) | exact RegCl.mk (by decide +kernel) | exact RegNo.mk (by kernel_rfl)) only [go_sem, seval]
  refine callCl (sha_SumX [[], b, []] b (by simp) (by simp) hl) ?_ rfl ?_
  · simp (maxSteps := 3000000) (disch := first | exact trivial | assumption | omega | exact RegOk.mk (by decide +kernel) | exact RegCl.mk (by decide +kernel) | exact RegNo.mk (by kernel_rfl)) only [go_sem, seval]
    refine LesV_row fun j hj => ?_
    rcases (show j = 0 ∨ j = 1 ∨ j = 2 by omega) with rfl | rfl | rfl <;> rfl
  simp (maxSteps := 3000000) (disch := first | exact trivial | assumption | omega | exact RegOk.mk (by decide +kernel) | exact RegCl.mk (by decide +kernel) | exact RegNo.mk (by kernel_rfl)) only [go_sem, seval]
end Go.Proofs.YtpobbfhdkbnpmaaDoor.Lv
