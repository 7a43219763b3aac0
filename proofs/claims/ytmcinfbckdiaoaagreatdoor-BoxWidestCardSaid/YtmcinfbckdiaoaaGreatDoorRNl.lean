/- The program's Neg, Sub, Width, Widest; the first call of law 6. -/
import Derived.Test.YtmcinfbckdiaoaaGreatDoorRNj
import Derived.Test.YtmcinfbckdiaoaaGreatDoorQH
set_option linter.unusedVariables false
set_option linter.unusedSimpArgs false
set_option maxRecDepth 100000
set_option maxHeartbeats 4000000
namespace Go.Proofs.YtmcinfbckdiaoaaGreatDoor.Lv
open Go Go.RowKit
theorem whole_Neg {z : Int} (hz : zb z < 1000000000) : C E 134 [zD z] (zD (-z)) := by
  refine CG_intro Tryz.func134 rfl (by kernel_rfl) rfl (by kernel_rfl) (by kernel_rfl) rfl ?_
  have e : mkZ (!decide (z < 0)) z.natAbs = -z := by
    unfold mkZ
    by_cases h : z < 0
    · rw [decide_eq_true h, if_neg (by decide)]; omega
    · rw [decide_eq_false h, if_pos (by decide)]; omega
  have hz' : nb z.natAbs < 1000000000 := hz
  have hF := whole_From (!decide (z < 0)) (n := z.natAbs) (by omega)
  rw [e] at hF
  simp (maxSteps := 3000000) (disch := first | exact trivial | assumption | omega | exact RegOk.mk (by decide +kernel) | exact RegCl.mk (by decide +kernel) | exact RegNo.mk (by kernel_rfl)) only [go_sem, seval]
  refine callC hF ?_ rfl ?_
  · simp (maxSteps := 3000000) (disch := first | exact trivial | assumption | omega | exact RegOk.mk (by decide +kernel) | exact RegCl.mk (by decide +kernel) | exact RegNo.mk (by kernel_rfl)) only [go_sem, seval, natD_u32s]
    try exact LesV.refl _
  simp (maxSteps := 3000000) (disch := first | exact trivial | assumption | omega | exact RegOk.mk (by decide +kernel) | exact RegCl.mk (by decide +kernel) | exact RegNo.mk (by kernel_rfl)) only [go_sem, seval]
  try exact LeV.refl _
theorem rneg_den (q : Rat) : (-q).den = q.den := rfl
theorem rneg_num (q : Rat) : (-q).num = -q.num := rfl
theorem qden_neg (q : Rat) : qden (-q) = qden q := by
  unfold qden; rw [rneg_den]
theorem rat_Neg {q : Rat} (hq : qs q) : C E 89 [qD q] (qD (-q)) := by
  refine CG_intro Tryz.func89 rfl (by kernel_rfl) rfl (by kernel_rfl) (by kernel_rfl) rfl ?_
  have hq1 := hq.1
  have hN := whole_Neg (z := q.num) (by omega)
  have e : qD (-q) = .agg [u32s (limbs (-q.num).natAbs), .bool (decide (-q.num < 0)), u32s (limbs (qden q))] := by
    rw [qD, qden_neg, rneg_num]
  rw [e]
  simp (maxSteps := 3000000) (disch := first | exact trivial | assumption | omega | exact RegOk.mk (by decide +kernel) | exact RegCl.mk (by decide +kernel) | exact RegNo.mk (by kernel_rfl)) only [go_sem, seval]
  refine callCl hN ?_ rfl ?_
  · simp (maxSteps := 3000000) (disch := first | exact trivial | assumption | omega | exact RegOk.mk (by decide +kernel) | exact RegCl.mk (by decide +kernel) | exact RegNo.mk (by kernel_rfl)) only [go_sem, seval]
    try exact LesV.refl _
  simp (maxSteps := 3000000) (disch := first | exact trivial | assumption | omega | exact RegOk.mk (by decide +kernel) | exact RegCl.mk (by decide +kernel) | exact RegNo.mk (by kernel_rfl)) only [go_sem, seval]
  try exact LeV.refl _
theorem qb_neg {k : Nat} {q : Rat} (h : qb k q) : qb k (-q) := by
  obtain ⟨h1, h2⟩ := h
  unfold zb at h1
  refine ⟨?_, by rw [rneg_den]; exact h2⟩
  unfold zb
  rw [rneg_num, Int.natAbs_neg]; exact h1
theorem rat_Sub {a b : Rat} (ha : qb 40000000 a) (hb : qb 40000000 b) : C E 56 [qD a, qD b] (qD (a - b)) := by
  refine CG_intro Tryz.func56 rfl (by kernel_rfl) rfl (by kernel_rfl) (by kernel_rfl) rfl ?_
  have hA := rat_Add (ha.qs (by omega)) ((qb_neg hb).qs (by omega))
  rw [← Rat.sub_eq_add_neg] at hA
  simp (maxSteps := 3000000) (disch := first | exact trivial | assumption | omega | exact RegOk.mk (by decide +kernel) | exact RegCl.mk (by decide +kernel) | exact RegNo.mk (by kernel_rfl)) only [go_sem, seval]
  refine callCl (rat_Neg (hb.qs (by omega))) ?_ rfl ?_
  · simp (maxSteps := 3000000) (disch := first | exact trivial | assumption | omega | exact RegOk.mk (by decide +kernel) | exact RegCl.mk (by decide +kernel) | exact RegNo.mk (by kernel_rfl)) only [go_sem, seval]
    try exact LesV.refl _
  simp (maxSteps := 3000000) (disch := first | exact trivial | assumption | omega | exact RegOk.mk (by decide +kernel) | exact RegCl.mk (by decide +kernel) | exact RegNo.mk (by kernel_rfl)) only [go_sem, seval]
  refine callCl hA ?_ rfl ?_
  · simp (maxSteps := 3000000) (disch := first | exact trivial | assumption | omega | exact RegOk.mk (by decide +kernel) | exact RegCl.mk (by decide +kernel) | exact RegNo.mk (by kernel_rfl)) only [go_sem, seval]
    try exact LesV.refl _
  simp (maxSteps := 3000000) (disch := first | exact trivial | assumption | omega | exact RegOk.mk (by decide +kernel) | exact RegCl.mk (by decide +kernel) | exact RegNo.mk (by kernel_rfl)) only [go_sem, seval]
  try exact LeV.refl _
def wd (p : Rat × Rat) : Rat := p.2 - p.1
theorem wd_qb {k : Nat} {p : Rat × Rat} (h1 : qb k p.1) (h2 : qb k p.2) : qb (2 * k + 1) (wd p) := by
  unfold wd
  rw [Rat.sub_eq_add_neg]
  exact (qb_add h2 (qb_neg h1)).mono (by omega)
theorem span_Width {p : Rat × Rat} (h1 : qb 40000000 p.1) (h2 : qb 40000000 p.2) : C E 17 [sD p] (qD (wd p)) := by
  refine CG_intro Tryz.func17 rfl (by kernel_rfl) rfl (by kernel_rfl) (by kernel_rfl) rfl ?_
  have hS := rat_Sub h2 h1
  simp (maxSteps := 3000000) (disch := first | exact trivial | assumption | omega | exact RegOk.mk (by decide +kernel) | exact RegCl.mk (by decide +kernel) | exact RegNo.mk (by kernel_rfl)) only [go_sem, seval]
  refine callC hS ?_ rfl ?_
  · simp (maxSteps := 3000000) (disch := first | exact trivial | assumption | omega | exact RegOk.mk (by decide +kernel) | exact RegCl.mk (by decide +kernel) | exact RegNo.mk (by kernel_rfl)) only [go_sem, seval]
    try exact LesV.refl _
  simp (maxSteps := 3000000) (disch := first | exact trivial | assumption | omega | exact RegOk.mk (by decide +kernel) | exact RegCl.mk (by decide +kernel) | exact RegNo.mk (by kernel_rfl)) only [go_sem, seval]
  try exact LeV.refl _
/-- The widest of the first sides. -/
def widF (l : List (Rat × Rat)) : Nat → Nat
  | 0 => 0
  | i + 1 => if wd (l.getD (widF l i) (0, 0)) < wd (l.getD i (0, 0)) then i else widF l i
theorem widF_lt (l : List (Rat × Rat)) : ∀ i, widF l (i + 1) ≤ i
  | 0 => by rw [widF]; split <;> exact Nat.le_refl _
  | i + 1 => by
    have ih := widF_lt l i
    rw [widF]; split <;> omega
theorem widF_le (l : List (Rat × Rat)) (i : Nat) : widF l i ≤ i := by
  cases i with
  | zero => exact Nat.le_refl _
  | succ i => have := widF_lt l i; omega
theorem widF_max (l : List (Rat × Rat)) : ∀ i j, j < i → wd (l.getD j (0, 0)) ≤ wd (l.getD (widF l i) (0, 0)) ∧ (j < widF l i → wd (l.getD j (0, 0)) < wd (l.getD (widF l i) (0, 0)))
  | 0, j, h => by omega
  | i + 1, j, h => by
    have ih := widF_max l i
    have hle := widF_le l i
    rw [widF]
    split
    · rename_i hw
      by_cases hj : j < i
      · obtain ⟨h1, h2⟩ := ih j hj
        exact ⟨by grind, fun _ => by grind⟩
      · obtain rfl : j = i := by omega
        exact ⟨by grind, fun h => by omega⟩
    · rename_i hw
      by_cases hj : j < i
      · exact ih j hj
      · obtain rfl : j = i := by omega
        exact ⟨by grind, fun h => by omega⟩
theorem box_Widest_no {l : List (Rat × Rat)} (hq : ∀ p ∈ l, qb 40000000 p.1 ∧ qb 40000000 p.2) (hl : l.length < 1073741824) (hr : rightB l = false) : C E 14 [bxD l] (.int .i64 (-1)) := by
  refine CG_intro Tryz.func14 rfl (by kernel_rfl) rfl (by kernel_rfl) (by kernel_rfl) rfl ?_
  have hR := box_Right (fun p hp => ⟨(hq p hp).1.qs (by omega), (hq p hp).2.qs (by omega)⟩) hl
  rw [hr] at hR
  simp (maxSteps := 3000000) (disch := first | exact trivial | assumption | omega | exact RegOk.mk (by decide +kernel) | exact RegCl.mk (by decide +kernel) | exact RegNo.mk (by kernel_rfl)) only [go_sem, seval]
  refine callC hR ?_ rfl ?_
  · simp (maxSteps := 3000000) (disch := first | exact trivial | assumption | omega | exact RegOk.mk (by decide +kernel) | exact RegCl.mk (by decide +kernel) | exact RegNo.mk (by kernel_rfl)) only [go_sem, seval]
  simp (maxSteps := 3000000) (disch := first | exact trivial | assumption | omega | exact RegOk.mk (by decide +kernel) | exact RegCl.mk (by decide +kernel) | exact RegNo.mk (by kernel_rfl)) only [go_sem, seval]
theorem box_Widest {l : List (Rat × Rat)} (hq : ∀ p ∈ l, qb 40000000 p.1 ∧ qb 40000000 p.2) (hl : l.length < 1073741824) (hr : rightB l = true) : C E 14 [bxD l] (.int .i64 (widF l l.length)) := by
  refine CG_intro Tryz.func14 rfl (by kernel_rfl) rfl (by kernel_rfl) (by kernel_rfl) rfl ?_
  have hR := box_Right (fun p hp => ⟨(hq p hp).1.qs (by omega), (hq p hp).2.qs (by omega)⟩) hl
  rw [hr] at hR
  have h1 := (rightB_iff.1 hr).2.1
  simp (maxSteps := 3000000) (disch := first | exact trivial | assumption | omega | exact RegOk.mk (by decide +kernel) | exact RegCl.mk (by decide +kernel) | exact RegNo.mk (by kernel_rfl)) only [go_sem, seval]
  refine callC hR ?_ rfl ?_
  · simp (maxSteps := 3000000) (disch := first | exact trivial | assumption | omega | exact RegOk.mk (by decide +kernel) | exact RegCl.mk (by decide +kernel) | exact RegNo.mk (by kernel_rfl)) only [go_sem, seval]
  simp (maxSteps := 3000000) (disch := first | exact trivial | assumption | omega | exact RegOk.mk (by decide +kernel) | exact RegCl.mk (by decide +kernel) | exact RegNo.mk (by kernel_rfl)) only [go_sem, seval, bxD]
  refine AL.of (fun i : Nat => i ≤ l.length) (fun i => l.length - i) (fun i => [(0, bxD l), (3, .int .i64 (widF l i)), (9, bxD l), (10, .int .i64 l.length), (11, .int .i64 i)]) (fun _ => []) 0 (Nat.zero_le _) ?_ ?_ ?_ ?_
  · simp (maxSteps := 3000000) (disch := first | exact trivial | assumption | omega | exact RegOk.mk (by decide +kernel) | exact RegCl.mk (by decide +kernel) | exact RegNo.mk (by kernel_rfl)) only [go_sem, seval, bxD]
    try exact LeV.refl _
  · simp (maxSteps := 3000000) (disch := first | exact trivial | assumption | omega | exact RegOk.mk (by decide +kernel) | exact RegCl.mk (by decide +kernel) | exact RegNo.mk (by kernel_rfl)) only [go_sem, seval]
  · intro x _; simp (maxSteps := 3000000) (disch := first | exact trivial | assumption | omega | exact RegOk.mk (by decide +kernel) | exact RegCl.mk (by decide +kernel) | exact RegNo.mk (by kernel_rfl)) only [go_sem, seval]
  intro i hi
  by_cases hil : i = l.length
  · subst hil
    simp (maxSteps := 3000000) (disch := first | exact trivial | assumption | omega | exact RegOk.mk (by decide +kernel) | exact RegCl.mk (by decide +kernel) | exact RegNo.mk (by kernel_rfl)) only [go_sem, seval, bxD]
  · have hil' : i < l.length := by omega
    have hm : ∀ j, j < l.length → l.getD j (0, 0) ∈ l := fun j hj => by
      rw [List.getD_eq_getElem?_getD, List.getElem?_eq_getElem hj]; exact List.getElem_mem hj
    have hwl : widF l i < l.length := by have := widF_le l i; omega
    have hp : pR l i = sD (l.getD i (0, 0)) := rfl
    have hpw : pR l (widF l i) = sD (l.getD (widF l i) (0, 0)) := rfl
    have ew : ((widF l i : Nat) : Int).toNat = widF l i := by omega
    have hnx : widF l (i + 1) = if wd (l.getD (widF l i) (0, 0)) < wd (l.getD i (0, 0)) then i else widF l i := rfl
    obtain ⟨s1, s2⟩ := hq _ (hm i hil')
    obtain ⟨s3, s4⟩ := hq _ (hm _ hwl)
    have hg := sgQ_gt (wd (l.getD i (0, 0))) (wd (l.getD (widF l i) (0, 0)))
    generalize l.getD i (0, 0) = p at *
    generalize l.getD (widF l i) (0, 0) = q at *
    have w1 := wd_qb s1 s2
    have w2 := wd_qb s3 s4
    have hc := rat_Cmp (w1.qs (by omega)) (w2.qs (by omega))
    have u1 := span_Width s1 s2
    have u2 := span_Width s3 s4
    simp (maxSteps := 3000000) (disch := first | exact trivial | assumption | omega | exact RegOk.mk (by decide +kernel) | exact RegCl.mk (by decide +kernel) | exact RegNo.mk (by kernel_rfl)) only [go_sem, seval, bxD, hp, hpw, ew]
    refine callCl u1 ?_ rfl ?_
    · simp (maxSteps := 3000000) (disch := first | exact trivial | assumption | omega | exact RegOk.mk (by decide +kernel) | exact RegCl.mk (by decide +kernel) | exact RegNo.mk (by kernel_rfl)) only [go_sem, seval]
      try exact LesV.refl _
    simp (maxSteps := 3000000) (disch := first | exact trivial | assumption | omega | exact RegOk.mk (by decide +kernel) | exact RegCl.mk (by decide +kernel) | exact RegNo.mk (by kernel_rfl)) only [go_sem, seval, bxD, hp, hpw, ew]
    refine callCl u2 ?_ rfl ?_
    · simp (maxSteps := 3000000) (disch := first | exact trivial | assumption | omega | exact RegOk.mk (by decide +kernel) | exact RegCl.mk (by decide +kernel) | exact RegNo.mk (by kernel_rfl)) only [go_sem, seval]
      try exact LesV.refl _
    simp (maxSteps := 3000000) (disch := first | exact trivial | assumption | omega | exact RegOk.mk (by decide +kernel) | exact RegCl.mk (by decide +kernel) | exact RegNo.mk (by kernel_rfl)) only [go_sem, seval, bxD, hp, hpw, ew]
    refine callCl hc ?_ rfl ?_
    · simp (maxSteps := 3000000) (disch := first | exact trivial | assumption | omega | exact RegOk.mk (by decide +kernel) | exact RegCl.mk (by decide +kernel) | exact RegNo.mk (by kernel_rfl)) only [go_sem, seval]
      try exact LesV.refl _
    by_cases h : wd q < wd p
    · rw [decide_eq_true h] at hg
      rw [if_pos h] at hnx
      simp (maxSteps := 3000000) (disch := first | exact trivial | assumption | omega | exact RegOk.mk (by decide +kernel) | exact RegCl.mk (by decide +kernel) | exact RegNo.mk (by kernel_rfl)) only [go_sem, seval, bxD, hg]
      refine ⟨i + 1, hil', by show l.length - (i + 1) < l.length - i; omega, ?_, ?_⟩
      · simp (maxSteps := 3000000) (disch := first | exact trivial | assumption | omega | exact RegOk.mk (by decide +kernel) | exact RegCl.mk (by decide +kernel) | exact RegNo.mk (by kernel_rfl)) only [go_sem, seval, bxD, hnx]
        try exact LeV_int (by omega)
      · simp (maxSteps := 3000000) (disch := first | exact trivial | assumption | omega | exact RegOk.mk (by decide +kernel) | exact RegCl.mk (by decide +kernel) | exact RegNo.mk (by kernel_rfl)) only [go_sem, seval]
    · rw [decide_eq_false h] at hg
      rw [if_neg h] at hnx
      simp (maxSteps := 3000000) (disch := first | exact trivial | assumption | omega | exact RegOk.mk (by decide +kernel) | exact RegCl.mk (by decide +kernel) | exact RegNo.mk (by kernel_rfl)) only [go_sem, seval, bxD, hg]
      refine ⟨i + 1, hil', by show l.length - (i + 1) < l.length - i; omega, ?_, ?_⟩
      · simp (maxSteps := 3000000) (disch := first | exact trivial | assumption | omega | exact RegOk.mk (by decide +kernel) | exact RegCl.mk (by decide +kernel) | exact RegNo.mk (by kernel_rfl)) only [go_sem, seval, bxD, hnx]
        try exact LeV_int (by omega)
      · simp (maxSteps := 3000000) (disch := first | exact trivial | assumption | omega | exact RegOk.mk (by decide +kernel) | exact RegCl.mk (by decide +kernel) | exact RegNo.mk (by kernel_rfl)) only [go_sem, seval]
end Go.Proofs.YtmcinfbckdiaoaaGreatDoor.Lv
