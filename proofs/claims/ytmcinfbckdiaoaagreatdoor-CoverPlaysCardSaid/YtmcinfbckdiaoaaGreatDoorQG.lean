/- The program's account of boxes: Split, Close. -/
import Derived.Test.YtmcinfbckdiaoaaGreatDoorQF
set_option linter.unusedVariables false
set_option linter.unusedSimpArgs false
set_option maxRecDepth 100000
set_option maxHeartbeats 4000000
namespace Go.Proofs.YtmcinfbckdiaoaaGreatDoor.Lv
open Go Go.RowKit
theorem cov_Split0 (v N : Nat) (most : Int) (f : Nat → D) (i : Int) : CG E 30 [.ad 0 0, .int .i64 i] (cvH v N most 0 f) (.int .i64 12) (cvH v N most 0 f) := by
  have hT := cov_Top0 v N most f
  unfold cvH at hT ⊢
  refine CG_intro Tryz.func30 rfl (by kernel_rfl) rfl (by kernel_rfl) (by kernel_rfl) rfl ?_
  simp (maxSteps := 3000000) (disch := first | exact trivial | assumption | omega | exact rOk | exact rCl | exact rNo) only [go_sem, seval]
  refine callG [0, 1] hT rfl (by simp (maxSteps := 3000000) (disch := first | exact trivial | assumption | omega | exact rOk | exact rCl | exact rNo) only [go_sem, seval]) ?_ ?_ ?_
  · simp (maxSteps := 3000000) (disch := first | exact trivial | assumption | omega | exact rOk | exact rCl | exact rNo) only [go_sem, seval]
  · simp (maxSteps := 3000000) (disch := first | exact trivial | assumption | omega | exact rOk | exact rCl | exact rNo) only [go_sem, seval]
  simp (maxSteps := 3000000) (disch := first | exact trivial | assumption | omega | exact rOk | exact rCl | exact rNo) only [go_sem, seval]
  try exact fun _ _ => trivial
theorem cov_Close0 (v N : Nat) (most : Int) (f : Nat → D) : CG E 29 [.ad 0 0] (cvH v N most 0 f) (.int .i64 12) (cvH v N most 0 f) := by
  have hL := cov_Left v N most f (n := 0) (by omega)
  unfold cvH at hL ⊢
  refine CG_intro Tryz.func29 rfl (by kernel_rfl) rfl (by kernel_rfl) (by kernel_rfl) rfl ?_
  simp (maxSteps := 3000000) (disch := first | exact trivial | assumption | omega | exact rOk | exact rCl | exact rNo) only [go_sem, seval]
  refine callG [0, 1] hL rfl (by simp (maxSteps := 3000000) (disch := first | exact trivial | assumption | omega | exact rOk | exact rCl | exact rNo) only [go_sem, seval]) ?_ ?_ ?_
  · simp (maxSteps := 3000000) (disch := first | exact trivial | assumption | omega | exact rOk | exact rCl | exact rNo) only [go_sem, seval]
  · simp (maxSteps := 3000000) (disch := first | exact trivial | assumption | omega | exact rOk | exact rCl | exact rNo) only [go_sem, seval]
  simp (maxSteps := 3000000) (disch := first | exact trivial | assumption | omega | exact rOk | exact rCl | exact rNo) only [go_sem, seval]
  try exact fun _ _ => trivial
theorem cov_Close (v N : Nat) (most : Int) {n : Nat} (f : Nat → D) (hn : n + 1 < 1073741824) : CG E 29 [.ad 0 0] (cvH v N most (n + 1) f) (.int .i64 0) (cvH v N most n f) := by
  have hL := cov_Left v N most f (n := n + 1) (by omega)
  unfold cvH at hL ⊢
  refine CG_intro Tryz.func29 rfl (by kernel_rfl) rfl (by kernel_rfl) (by kernel_rfl) rfl ?_
  have e1 : (((n + 1 : Nat) : Int) - 1).toNat = n := by omega
  simp (maxSteps := 3000000) (disch := first | exact trivial | assumption | omega | exact rOk | exact rCl | exact rNo) only [go_sem, seval]
  refine callG [0, 1] hL rfl (by simp (maxSteps := 3000000) (disch := first | exact trivial | assumption | omega | exact rOk | exact rCl | exact rNo) only [go_sem, seval]) ?_ ?_ ?_
  · simp (maxSteps := 3000000) (disch := first | exact trivial | assumption | omega | exact rOk | exact rCl | exact rNo) only [go_sem, seval]
  · simp (maxSteps := 3000000) (disch := first | exact trivial | assumption | omega | exact rOk | exact rCl | exact rNo) only [go_sem, seval]
  simp (maxSteps := 3000000) (disch := first | exact trivial | assumption | omega | exact rOk | exact rCl | exact rNo) only [go_sem, seval, e1]
  try exact fun _ _ => trivial
theorem cov_Split_arg (v N : Nat) (most : Int) {n : Nat} (f : Nat → D) (hn : n + 1 < 1073741824) (hN : n + 1 ≤ N) {p : Plc} (hp : f n = plD p) (hq : ∀ q ∈ p.1, qs q.1 ∧ qs q.2) (h0 : p.1 ≠ []) (hl : p.1.length < 1073741824) {i : Int} (h : ¬ (rightB p.1 = true ∧ 0 ≤ i ∧ i < p.1.length)) :
    CG E 30 [.ad 0 0, .int .i64 i] (cvH v N most (n + 1) f) (.int .i64 1) (cvH v N most (n + 1) f) := by
  have hT := cov_Top v N most f hn hN hp h0 hl
  have hS := box_Split_no hq hl h
  unfold cvH at hT ⊢
  refine CG_intro Tryz.func30 rfl (by kernel_rfl) rfl (by kernel_rfl) (by kernel_rfl) rfl ?_
  simp (maxSteps := 3000000) (disch := first | exact trivial | assumption | omega | exact rOk | exact rCl | exact rNo) only [go_sem, seval]
  refine callG [0, 1] hT rfl (by simp (maxSteps := 3000000) (disch := first | exact trivial | assumption | omega | exact rOk | exact rCl | exact rNo) only [go_sem, seval]) ?_ ?_ ?_
  · simp (maxSteps := 3000000) (disch := first | exact trivial | assumption | omega | exact rOk | exact rCl | exact rNo) only [go_sem, seval]
  · simp (maxSteps := 3000000) (disch := first | exact trivial | assumption | omega | exact rOk | exact rCl | exact rNo) only [go_sem, seval]
  simp (maxSteps := 3000000) (disch := first | exact trivial | assumption | omega | exact rOk | exact rCl | exact rNo) only [go_sem, seval]
  refine callC hS ?_ rfl ?_
  · simp (maxSteps := 3000000) (disch := first | exact trivial | assumption | omega | exact rOk | exact rCl | exact rNo) only [go_sem, seval]
  simp (maxSteps := 3000000) (disch := first | exact trivial | assumption | omega | exact rOk | exact rCl | exact rNo) only [go_sem, seval]
  try exact fun _ _ => trivial
theorem cov_Split_deep (v N : Nat) (most : Int) {n : Nat} (f : Nat → D) (hn : n + 1 < 1073741824) (hN : n + 1 ≤ N) {p : Plc} (hp : f n = plD p) (hq : ∀ q ∈ p.1, qb 40000000 q.1 ∧ qb 40000000 q.2) (hl : p.1.length < 1073741824) {i : Nat} (hr : rightB p.1 = true) (hi : i < p.1.length) (hd : most ≤ p.2) :
    CG E 30 [.ad 0 0, .int .i64 (i : Int)] (cvH v N most (n + 1) f) (.int .i64 17) (cvH v N most (n + 1) f) := by
  have h0 : p.1 ≠ [] := fun e => by rw [e] at hi; simp at hi
  have hT := cov_Top v N most f hn hN hp h0 hl
  have hS := box_Split hq hl hr hi
  unfold cvH at hT ⊢
  refine CG_intro Tryz.func30 rfl (by kernel_rfl) rfl (by kernel_rfl) (by kernel_rfl) rfl ?_
  simp (maxSteps := 3000000) (disch := first | exact trivial | assumption | omega | exact rOk | exact rCl | exact rNo) only [go_sem, seval]
  refine callG [0, 1] hT rfl (by simp (maxSteps := 3000000) (disch := first | exact trivial | assumption | omega | exact rOk | exact rCl | exact rNo) only [go_sem, seval]) ?_ ?_ ?_
  · simp (maxSteps := 3000000) (disch := first | exact trivial | assumption | omega | exact rOk | exact rCl | exact rNo) only [go_sem, seval]
  · simp (maxSteps := 3000000) (disch := first | exact trivial | assumption | omega | exact rOk | exact rCl | exact rNo) only [go_sem, seval]
  simp (maxSteps := 3000000) (disch := first | exact trivial | assumption | omega | exact rOk | exact rCl | exact rNo) only [go_sem, seval]
  refine callC hS ?_ rfl ?_
  · simp (maxSteps := 3000000) (disch := first | exact trivial | assumption | omega | exact rOk | exact rCl | exact rNo) only [go_sem, seval]
  simp (maxSteps := 3000000) (disch := first | exact trivial | assumption | omega | exact rOk | exact rCl | exact rNo) only [go_sem, seval]
  try exact fun _ _ => trivial
theorem cov_Split (v N : Nat) (most : Int) {n : Nat} (f : Nat → D) (hn : n + 2 < 1073741824) (hN : n + 1 ≤ N) {p : Plc} (hp : f n = plD p) (hq : ∀ q ∈ p.1, qb 40000000 q.1 ∧ qb 40000000 q.2) (hl : p.1.length < 1073741824) {i : Nat} (hr : rightB p.1 = true) (hi : i < p.1.length) (hd : p.2 < most) (hd2 : p.2 < 4611686018427387904) (hd3 : 0 ≤ p.2) :
    CG E 30 [.ad 0 0, .int .i64 (i : Int)] (cvH v N most (n + 1) f) (.int .i64 0)
      (cvH (v + 1) (n + 2) most (n + 2) fun j => if j < n then f j else if j = n then plD (splitH p.1 i, p.2 + 1) else plD (splitL p.1 i, p.2 + 1)) := by
  have h0 : p.1 ≠ [] := fun e => by rw [e] at hi; simp at hi
  have hT := cov_Top v N most f (by omega) hN hp h0 hl
  have hS := box_Split hq hl hr hi
  unfold cvH at hT ⊢
  refine CG_intro Tryz.func30 rfl (by kernel_rfl) rfl (by kernel_rfl) (by kernel_rfl) rfl ?_
  have e1 : (((n + 1 : Nat) : Int) - 1).toNat = n := by omega
  simp (maxSteps := 3000000) (disch := first | exact trivial | assumption | omega | exact rOk | exact rCl | exact rNo) only [go_sem, seval]
  refine callG [0, 1] hT rfl (by simp (maxSteps := 3000000) (disch := first | exact trivial | assumption | omega | exact rOk | exact rCl | exact rNo) only [go_sem, seval]) ?_ ?_ ?_
  · simp (maxSteps := 3000000) (disch := first | exact trivial | assumption | omega | exact rOk | exact rCl | exact rNo) only [go_sem, seval]
  · simp (maxSteps := 3000000) (disch := first | exact trivial | assumption | omega | exact rOk | exact rCl | exact rNo) only [go_sem, seval]
  simp (maxSteps := 3000000) (disch := first | exact trivial | assumption | omega | exact rOk | exact rCl | exact rNo) only [go_sem, seval]
  refine callC hS ?_ rfl ?_
  · simp (maxSteps := 3000000) (disch := first | exact trivial | assumption | omega | exact rOk | exact rCl | exact rNo) only [go_sem, seval]
  simp (maxSteps := 3000000) (disch := first | exact trivial | assumption | omega | exact rOk | exact rCl | exact rNo) only [go_sem, seval, e1]
  refine ⟨.inl trivial, .inr trivial, by omega, by omega, fun j hj => ?_⟩
  by_cases h1 : j < n
  · rw [if_pos h1, if_pos h1]; exact Le.refl _
  · rw [if_neg h1, if_neg h1]
    rcases (show j = n ∨ j = n + 1 by omega) with h | h
    · rw [if_pos h, h, Nat.sub_self]; exact Le.refl _
    · rw [if_neg (by omega), h, show n + 1 - n = 1 by omega]; exact Le.refl _
end Go.Proofs.YtmcinfbckdiaoaaGreatDoor.Lv
