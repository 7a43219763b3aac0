/- Intervals: hull, within, has; the document's; a number as a text. A number as a text; the least interval of some. Two boxes: hull. Two boxes: within, meets, has; the document's. -/
import Derived.Test.YtmcinfbckdiaoaaGreatDoorRe
set_option linter.unusedVariables false
set_option linter.unusedSimpArgs false
set_option maxRecDepth 100000
set_option maxHeartbeats 4000000
namespace Go.Proofs.YtmcinfbckdiaoaaGreatDoor.Lv
open Go Go.RowKit
theorem sgQ_lt (a b : Rat) : decide (sgQ a b < 0) = decide (a < b) := by
  have h := sgQ_ge a b
  by_cases h1 : b ≤ a
  · rw [decide_eq_true h1] at h
    have := of_decide_eq_true h
    rw [decide_eq_false (by omega), decide_eq_false (by grind)]
  · rw [decide_eq_false h1] at h
    have := of_decide_eq_false h
    rw [decide_eq_true (by omega), decide_eq_true (by grind)]
theorem sgQ_le (a b : Rat) : decide (sgQ a b ≤ 0) = decide (a ≤ b) := by
  have h := sgQ_gt a b
  by_cases h1 : b < a
  · rw [decide_eq_true h1] at h
    have := of_decide_eq_true h
    rw [decide_eq_false (by omega), decide_eq_false (by grind)]
  · rw [decide_eq_false h1] at h
    have := of_decide_eq_false h
    rw [decide_eq_true (by omega), decide_eq_true (by grind)]
def lesQ (a b : Rat) : Rat := if b < a then b else a
def morQ (a b : Rat) : Rat := if a < b then b else a
theorem span_less {a b : Rat} (ha : qs a) (hb : qs b) : C E 120 [qD a, qD b] (qD (lesQ a b)) := by
  refine CG_intro Tryz.func120 rfl (by kernel_rfl) rfl (by kernel_rfl) (by kernel_rfl) rfl ?_
  have hg := sgQ_lt b a
  unfold lesQ
  simp (maxSteps := 3000000) (disch := first | exact trivial | assumption | omega | exact rOk | exact rCl | exact rNo) only [go_sem, seval]
  refine callC (rat_Cmp hb ha) ?_ rfl ?_
  · simp (maxSteps := 3000000) (disch := first | exact trivial | assumption | omega | exact rOk | exact rCl | exact rNo) only [go_sem, seval]
    try exact LesV.refl _
  by_cases h : b < a
  · rw [decide_eq_true h] at hg
    rw [if_pos h]
    simp (maxSteps := 3000000) (disch := first | exact trivial | assumption | omega | exact rOk | exact rCl | exact rNo) only [go_sem, seval, hg]
  · rw [decide_eq_false h] at hg
    rw [if_neg h]
    simp (maxSteps := 3000000) (disch := first | exact trivial | assumption | omega | exact rOk | exact rCl | exact rNo) only [go_sem, seval, hg]
theorem span_more {a b : Rat} (ha : qs a) (hb : qs b) : C E 121 [qD a, qD b] (qD (morQ a b)) := by
  refine CG_intro Tryz.func121 rfl (by kernel_rfl) rfl (by kernel_rfl) (by kernel_rfl) rfl ?_
  have hg := sgQ_gt b a
  unfold morQ
  simp (maxSteps := 3000000) (disch := first | exact trivial | assumption | omega | exact rOk | exact rCl | exact rNo) only [go_sem, seval]
  refine callC (rat_Cmp hb ha) ?_ rfl ?_
  · simp (maxSteps := 3000000) (disch := first | exact trivial | assumption | omega | exact rOk | exact rCl | exact rNo) only [go_sem, seval]
    try exact LesV.refl _
  by_cases h : a < b
  · rw [decide_eq_true h] at hg
    rw [if_pos h]
    simp (maxSteps := 3000000) (disch := first | exact trivial | assumption | omega | exact rOk | exact rCl | exact rNo) only [go_sem, seval, hg]
  · rw [decide_eq_false h] at hg
    rw [if_neg h]
    simp (maxSteps := 3000000) (disch := first | exact trivial | assumption | omega | exact rOk | exact rCl | exact rNo) only [go_sem, seval, hg]
def hullQ (p q : Rat × Rat) : Rat × Rat := (lesQ p.1 q.1, morQ p.2 q.2)
theorem span_Hull {p q : Rat × Rat} (h1 : qs p.1 ∧ qs p.2) (h2 : qs q.1 ∧ qs q.2) : C E 75 [sD p, sD q] (sD (hullQ p q)) := by
  refine CG_intro Tryz.func75 rfl (by kernel_rfl) rfl (by kernel_rfl) (by kernel_rfl) rfl ?_
  have g1 := span_less h1.1 h2.1
  have g2 := span_more h1.2 h2.2
  unfold hullQ
  generalize lesQ p.1 q.1 = a at *
  generalize morQ p.2 q.2 = b at *
  simp (maxSteps := 3000000) (disch := first | exact trivial | assumption | omega | exact rOk | exact rCl | exact rNo) only [go_sem, seval]
  refine callCl g1 ?_ rfl ?_
  · simp (maxSteps := 3000000) (disch := first | exact trivial | assumption | omega | exact rOk | exact rCl | exact rNo) only [go_sem, seval]
    try exact LesV.refl _
  simp (maxSteps := 3000000) (disch := first | exact trivial | assumption | omega | exact rOk | exact rCl | exact rNo) only [go_sem, seval]
  refine callCl g2 ?_ rfl ?_
  · simp (maxSteps := 3000000) (disch := first | exact trivial | assumption | omega | exact rOk | exact rCl | exact rNo) only [go_sem, seval]
    try exact LesV.refl _
  simp (maxSteps := 3000000) (disch := first | exact trivial | assumption | omega | exact rOk | exact rCl | exact rNo) only [go_sem, seval]
  try exact LeV.refl _
/-- Has the second all of the first? -/
def inB (p q : Rat × Rat) : Bool := decide (q.1 ≤ p.1) && decide (p.2 ≤ q.2)
theorem span_Within {p q : Rat × Rat} (h1 : qs p.1 ∧ qs p.2) (h2 : qs q.1 ∧ qs q.2) : C E 76 [sD p, sD q] (.bool (decide (q.1 ≤ p.1) && decide (p.2 ≤ q.2))) := by
  refine CG_intro Tryz.func76 rfl (by kernel_rfl) rfl (by kernel_rfl) (by kernel_rfl) rfl ?_
  have k1 := rat_Cmp h2.1 h1.1
  have k2 := rat_Cmp h1.2 h2.2
  have g1 := sgQ_le q.1 p.1
  have g2 := sgQ_le p.2 q.2
  simp (maxSteps := 3000000) (disch := first | exact trivial | assumption | omega | exact rOk | exact rCl | exact rNo) only [go_sem, seval]
  refine callCl k1 ?_ rfl ?_
  · simp (maxSteps := 3000000) (disch := first | exact trivial | assumption | omega | exact rOk | exact rCl | exact rNo) only [go_sem, seval]
    try exact LesV.refl _
  rcases Bool.eq_false_or_eq_true (decide (q.1 ≤ p.1)) with h | h
  · rw [h] at g1 ⊢
    simp (maxSteps := 3000000) (disch := first | exact trivial | assumption | omega | exact rOk | exact rCl | exact rNo) only [go_sem, seval, g1]
    refine callCl k2 ?_ rfl ?_
    · simp (maxSteps := 3000000) (disch := first | exact trivial | assumption | omega | exact rOk | exact rCl | exact rNo) only [go_sem, seval]
      try exact LesV.refl _
    simp (maxSteps := 3000000) (disch := first | exact trivial | assumption | omega | exact rOk | exact rCl | exact rNo) only [go_sem, seval, g1, g2]
    try exact LeV.refl _
  · rw [h] at g1 ⊢
    simp (maxSteps := 3000000) (disch := first | exact trivial | assumption | omega | exact rOk | exact rCl | exact rNo) only [go_sem, seval, g1]
    try exact LeV.refl _
theorem ref_SpanWithin {p q : Rat × Rat} (h1 : qs p.1 ∧ qs p.2) (h2 : qs q.1 ∧ qs q.2) : C E 77 [rsD p, rsD q] (.bool (decide (q.1 ≤ p.1) && decide (p.2 ≤ q.2))) := by
  refine CG_intro Tryz.func77 rfl (by kernel_rfl) rfl (by kernel_rfl) (by kernel_rfl) rfl ?_
  have k1 := ref_RatCmp h2.1 h1.1
  have k2 := ref_RatCmp h1.2 h2.2
  have g1 := sgQ_le q.1 p.1
  have g2 := sgQ_le p.2 q.2
  simp (maxSteps := 3000000) (disch := first | exact trivial | assumption | omega | exact rOk | exact rCl | exact rNo) only [go_sem, seval]
  refine callCl k1 ?_ rfl ?_
  · simp (maxSteps := 3000000) (disch := first | exact trivial | assumption | omega | exact rOk | exact rCl | exact rNo) only [go_sem, seval]
    try exact LesV.refl _
  rcases Bool.eq_false_or_eq_true (decide (q.1 ≤ p.1)) with h | h
  · rw [h] at g1 ⊢
    simp (maxSteps := 3000000) (disch := first | exact trivial | assumption | omega | exact rOk | exact rCl | exact rNo) only [go_sem, seval, g1]
    refine callCl k2 ?_ rfl ?_
    · simp (maxSteps := 3000000) (disch := first | exact trivial | assumption | omega | exact rOk | exact rCl | exact rNo) only [go_sem, seval]
      try exact LesV.refl _
    simp (maxSteps := 3000000) (disch := first | exact trivial | assumption | omega | exact rOk | exact rCl | exact rNo) only [go_sem, seval, g1, g2]
    try exact LeV.refl _
  · rw [h] at g1 ⊢
    simp (maxSteps := 3000000) (disch := first | exact trivial | assumption | omega | exact rOk | exact rCl | exact rNo) only [go_sem, seval, g1]
    try exact LeV.refl _
/-- Is a number in it? -/
def hasB (p : Rat × Rat) (x : Rat) : Bool := decide (p.1 ≤ x) && decide (x ≤ p.2)
theorem span_Has {p : Rat × Rat} {x : Rat} (h1 : qs p.1 ∧ qs p.2) (h2 : qs x) : C E 80 [sD p, qD x] (.bool (decide (p.1 ≤ x) && decide (x ≤ p.2))) := by
  refine CG_intro Tryz.func80 rfl (by kernel_rfl) rfl (by kernel_rfl) (by kernel_rfl) rfl ?_
  have k1 := rat_Cmp h1.1 h2
  have k2 := rat_Cmp h2 h1.2
  have g1 := sgQ_le p.1 x
  have g2 := sgQ_le x p.2
  simp (maxSteps := 3000000) (disch := first | exact trivial | assumption | omega | exact rOk | exact rCl | exact rNo) only [go_sem, seval]
  refine callCl k1 ?_ rfl ?_
  · simp (maxSteps := 3000000) (disch := first | exact trivial | assumption | omega | exact rOk | exact rCl | exact rNo) only [go_sem, seval]
    try exact LesV.refl _
  rcases Bool.eq_false_or_eq_true (decide (p.1 ≤ x)) with h | h
  · rw [h] at g1 ⊢
    simp (maxSteps := 3000000) (disch := first | exact trivial | assumption | omega | exact rOk | exact rCl | exact rNo) only [go_sem, seval, g1]
    refine callCl k2 ?_ rfl ?_
    · simp (maxSteps := 3000000) (disch := first | exact trivial | assumption | omega | exact rOk | exact rCl | exact rNo) only [go_sem, seval]
      try exact LesV.refl _
    simp (maxSteps := 3000000) (disch := first | exact trivial | assumption | omega | exact rOk | exact rCl | exact rNo) only [go_sem, seval, g1, g2]
    try exact LeV.refl _
  · rw [h] at g1 ⊢
    simp (maxSteps := 3000000) (disch := first | exact trivial | assumption | omega | exact rOk | exact rCl | exact rNo) only [go_sem, seval, g1]
    try exact LeV.refl _
theorem ref_SpanHas {p : Rat × Rat} {x : Rat} (h1 : qs p.1 ∧ qs p.2) (h2 : qs x) : C E 81 [rsD p, rqD x] (.bool (decide (p.1 ≤ x) && decide (x ≤ p.2))) := by
  refine CG_intro Tryz.func81 rfl (by kernel_rfl) rfl (by kernel_rfl) (by kernel_rfl) rfl ?_
  have k1 := ref_RatCmp h1.1 h2
  have k2 := ref_RatCmp h2 h1.2
  have g1 := sgQ_le p.1 x
  have g2 := sgQ_le x p.2
  simp (maxSteps := 3000000) (disch := first | exact trivial | assumption | omega | exact rOk | exact rCl | exact rNo) only [go_sem, seval]
  refine callCl k1 ?_ rfl ?_
  · simp (maxSteps := 3000000) (disch := first | exact trivial | assumption | omega | exact rOk | exact rCl | exact rNo) only [go_sem, seval]
    try exact LesV.refl _
  rcases Bool.eq_false_or_eq_true (decide (p.1 ≤ x)) with h | h
  · rw [h] at g1 ⊢
    simp (maxSteps := 3000000) (disch := first | exact trivial | assumption | omega | exact rOk | exact rCl | exact rNo) only [go_sem, seval, g1]
    refine callCl k2 ?_ rfl ?_
    · simp (maxSteps := 3000000) (disch := first | exact trivial | assumption | omega | exact rOk | exact rCl | exact rNo) only [go_sem, seval]
      try exact LesV.refl _
    simp (maxSteps := 3000000) (disch := first | exact trivial | assumption | omega | exact rOk | exact rCl | exact rNo) only [go_sem, seval, g1, g2]
    try exact LeV.refl _
  · rw [h] at g1 ⊢
    simp (maxSteps := 3000000) (disch := first | exact trivial | assumption | omega | exact rOk | exact rCl | exact rNo) only [go_sem, seval, g1]
    try exact LeV.refl _
end Go.Proofs.YtmcinfbckdiaoaaGreatDoor.Lv

set_option linter.unusedVariables false
set_option linter.unusedSimpArgs false
set_option maxRecDepth 100000
set_option maxHeartbeats 4000000
namespace Go.Proofs.YtmcinfbckdiaoaaGreatDoor.Lv
open Go Go.RowKit
/-- A number's text of at most 100 signs. -/
def numO (s : Txt) : Option Rat := if s.length ≤ 100 then rpO s else none
def rr0 : D := .agg [.bool false, nD 0, nD 0]
section
variable (h : Hp) (ρ : Nat → Option Nat)
theorem cl_rr0 : cl rr0 = true := Eq.trans rfl rfl
theorem flat_rr0 : flat rr0 = false := Eq.trans rfl rfl
theorem imp_rr0 : imp ρ h rr0 = rr0 := Eq.trans rfl rfl
theorem refs_rr0 : refs ρ rr0 = [] := Eq.trans rfl rfl
theorem asAgg_rr0 : asAgg rr0 = some [.bool false, nD 0, nD 0] := Eq.trans rfl rfl
theorem one_rr0 : one h rr0 = false := Eq.trans rfl rfl
end
attribute [go_sem] cl_rr0 flat_rr0 imp_rr0 refs_rr0 asAgg_rr0 one_rr0
theorem LeV_rr0 : LeV (.agg [.bool false, .nils, .nils]) rr0 := LeV.agg (LesV.cons (LeV.refl _) (LesV.cons nD_zero (LesV.cons nD_zero LesV.nil)))
theorem law3_Num_no {s : Txt} (hs : s.length < 9223372036854775808) (h : numO s = none) : C E 45 [.str s] (.tup [qD 0, rr0, .bool false]) := by
  refine CG_intro Tryz.func45 rfl (by kernel_rfl) rfl (by kernel_rfl) (by kernel_rfl) rfl ?_
  have h1 := ref_RatParse s hs
  cases hr : rpO s with
  | none =>
    rw [rrD_no hr] at h1
    generalize (if 0 ≤ Lib.indexByte s 47 then 0 else 1) = k1 at h1
    simp (maxSteps := 3000000) (disch := first | exact trivial | assumption | omega | exact rOk | exact rCl | exact rNo) only [go_sem, seval]
    refine callC h1 ?_ rfl ?_
    · simp (maxSteps := 3000000) (disch := first | exact trivial | assumption | omega | exact rOk | exact rCl | exact rNo) only [go_sem, seval]
      try exact LesV.refl _
    simp (maxSteps := 3000000) (disch := first | exact trivial | assumption | omega | exact rOk | exact rCl | exact rNo) only [go_sem, seval]
    exact LeV.tup (LesV.cons LeV_q0' (LesV.cons LeV_rr0 (LesV.refl _)))
  | some q =>
    have hl : ¬ s.length ≤ 100 := fun hl => by unfold numO at h; rw [if_pos hl, hr] at h; cases h
    rw [rrD_yes hr] at h1
    simp (maxSteps := 3000000) (disch := first | exact trivial | assumption | omega | exact rOk | exact rCl | exact rNo) only [go_sem, seval]
    refine callC h1 ?_ rfl ?_
    · simp (maxSteps := 3000000) (disch := first | exact trivial | assumption | omega | exact rOk | exact rCl | exact rNo) only [go_sem, seval]
      try exact LesV.refl _
    simp (maxSteps := 3000000) (disch := first | exact trivial | assumption | omega | exact rOk | exact rCl | exact rNo) only [go_sem, seval]
    exact LeV.tup (LesV.cons LeV_q0' (LesV.cons LeV_rr0 (LesV.refl _)))
theorem law3_Num_yes {s : Txt} {q : Rat} (h : numO s = some q) : C E 45 [.str s] (.tup [qD q, rqD q, .bool true]) := by
  refine CG_intro Tryz.func45 rfl (by kernel_rfl) rfl (by kernel_rfl) (by kernel_rfl) rfl ?_
  have hl : s.length ≤ 100 := by
    unfold numO at h
    split at h
    · assumption
    · cases h
  have hr : rpO s = some q := by unfold numO at h; rw [if_pos hl] at h; exact h
  have h1 := ref_RatParse s (by omega)
  have h2 := rat_Parse s (by omega)
  rw [rrD_yes hr] at h1
  rw [rpD_yes hr] at h2
  simp (maxSteps := 3000000) (disch := first | exact trivial | assumption | omega | exact rOk | exact rCl | exact rNo) only [go_sem, seval]
  refine callC h1 ?_ rfl ?_
  · simp (maxSteps := 3000000) (disch := first | exact trivial | assumption | omega | exact rOk | exact rCl | exact rNo) only [go_sem, seval]
    try exact LesV.refl _
  simp (maxSteps := 3000000) (disch := first | exact trivial | assumption | omega | exact rOk | exact rCl | exact rNo) only [go_sem, seval]
  refine callC h2 ?_ rfl ?_
  · simp (maxSteps := 3000000) (disch := first | exact trivial | assumption | omega | exact rOk | exact rCl | exact rNo) only [go_sem, seval]
    try exact LesV.refl _
  simp (maxSteps := 3000000) (disch := first | exact trivial | assumption | omega | exact rOk | exact rCl | exact rNo) only [go_sem, seval]
  refine AReg_anyL 5 [0, 1, 2, 3, 4] rfl rfl (by decide +kernel) ?_
  refine AAny_free 0 [1, 2, 3, 4] (by decide +kernel) rfl ?_
  refine AI_at _ rfl ?_
  simp (maxSteps := 3000000) (disch := first | exact trivial | assumption | omega | exact rOk | exact rCl | exact rNo) only [go_sem, seval]
  refine AAny_step [(1, [2, 3, 4]), (2, [1, 3, 4])] (by decide +kernel) rfl ?_
  refine forall_more ?_ ?_
  · refine AI_at _ rfl ?_
    simp (maxSteps := 3000000) (disch := first | exact trivial | assumption | omega | exact rOk | exact rCl | exact rNo) only [go_sem, seval]
    refine AAny_free 2 [3, 4] (by decide +kernel) rfl ?_
    refine AI_at _ rfl ?_
    simp (maxSteps := 3000000) (disch := first | exact trivial | assumption | omega | exact rOk | exact rCl | exact rNo) only [go_sem, seval]
    refine AAny_free 3 [4] (by decide +kernel) rfl ?_
    refine AI_at _ rfl ?_
    simp (maxSteps := 3000000) (disch := first | exact trivial | assumption | omega | exact rOk | exact rCl | exact rNo) only [go_sem, seval]
    refine AAny_free 4 [] (by decide +kernel) rfl ?_
    refine AI_at _ rfl ?_
    simp (maxSteps := 3000000) (disch := first | exact trivial | assumption | omega | exact rOk | exact rCl | exact rNo) only [go_sem, seval]
    refine AAny_end ?_
    simp (maxSteps := 3000000) (disch := first | exact trivial | assumption | omega | exact rOk | exact rCl | exact rNo) only [go_sem, seval]
    try exact LeV.refl _
  refine forall_one ?_
  refine AI_at _ rfl ?_
  simp (maxSteps := 3000000) (disch := first | exact trivial | assumption | omega | exact rOk | exact rCl | exact rNo) only [go_sem, seval]
  refine AAny_free 1 [3, 4] (by decide +kernel) rfl ?_
  refine AI_at _ rfl ?_
  simp (maxSteps := 3000000) (disch := first | exact trivial | assumption | omega | exact rOk | exact rCl | exact rNo) only [go_sem, seval]
  refine AAny_free 3 [4] (by decide +kernel) rfl ?_
  refine AI_at _ rfl ?_
  simp (maxSteps := 3000000) (disch := first | exact trivial | assumption | omega | exact rOk | exact rCl | exact rNo) only [go_sem, seval]
  refine AAny_free 4 [] (by decide +kernel) rfl ?_
  refine AI_at _ rfl ?_
  simp (maxSteps := 3000000) (disch := first | exact trivial | assumption | omega | exact rOk | exact rCl | exact rNo) only [go_sem, seval]
  refine AAny_end ?_
  simp (maxSteps := 3000000) (disch := first | exact trivial | assumption | omega | exact rOk | exact rCl | exact rNo) only [go_sem, seval]
  try exact LeV.refl _
/-- The least interval of the first ones. -/
def leF (l : List Rat) : Nat → Rat × Rat
  | 0 => (l.getD 0 0, l.getD 0 0)
  | i + 1 => (if l.getD (i + 1) 0 < (leF l i).1 then l.getD (i + 1) 0 else (leF l i).1, if (leF l i).2 < l.getD (i + 1) 0 then l.getD (i + 1) 0 else (leF l i).2)
theorem leF_hull {a b c d : Rat} (h1 : a < b) (h2 : c < d) : leF [a, b, c, d] 3 = hullQ (a, b) (c, d) := by
  have e : leF [a, b, c, d] 3 = (if d < (if c < (if b < a then b else a) then c else (if b < a then b else a)) then d else (if c < (if b < a then b else a) then c else (if b < a then b else a)),
    if (if (if a < b then b else a) < c then c else (if a < b then b else a)) < d then d else (if (if a < b then b else a) < c then c else (if a < b then b else a))) := rfl
  rw [e, if_neg (show ¬ b < a by grind), if_pos h1]
  unfold hullQ lesQ morQ
  simp only
  refine Prod.ext ?_ ?_
  · simp only; split <;> split <;> grind
  · simp only; split <;> split <;> grind
theorem leF_in (l : List Rat) (h : l ≠ []) : ∀ i, i < l.length → (leF l i).1 ∈ l ∧ (leF l i).2 ∈ l := by
  have hm : ∀ j, j < l.length → l.getD j 0 ∈ l := fun j hj => by
    rw [List.getD_eq_getElem?_getD, List.getElem?_eq_getElem hj]; exact List.getElem_mem hj
  intro i
  induction i with
  | zero => intro hi; exact ⟨hm 0 hi, hm 0 hi⟩
  | succ i ih =>
    intro hi
    obtain ⟨i1, i2⟩ := ih (by omega)
    refine ⟨?_, ?_⟩
    · show (if _ then _ else _) ∈ l
      split
      · exact hm _ hi
      · exact i1
    · show (if _ then _ else _) ∈ l
      split
      · exact hm _ hi
      · exact i2
/-- A row of the document's numbers. -/
def rqR (l : List Rat) : Nat → D := fun i => rqD (l.getD i 0)
def rqlD (l : List Rat) : D := .ro true 3 l.length (rqR l)
section
variable (l : List Rat) (h : Hp) (ρ : Nat → Option Nat)
theorem cl_rql : cl (rqlD l) = true := Eq.trans rfl rfl
theorem flat_rql : flat (rqlD l) = false := Eq.trans rfl rfl
theorem imp_rql : imp ρ h (rqlD l) = rqlD l := Eq.trans rfl rfl
theorem refs_rql : refs ρ (rqlD l) = [] := Eq.trans rfl rfl
theorem one_rql : one h (rqlD l) = true := Eq.trans rfl rfl
end
attribute [go_sem] cl_rql flat_rql imp_rql refs_rql one_rql
theorem rqR_snoc {w : List Rat} {d : Rat} {j n : Nat} (hn : w.length = n) (hj : j < n + 1) : (if j < n then rqR w j else [rqD d].getD (j - n) .unk) = rqR (w ++ [d]) j := by
  unfold rqR
  by_cases h : j < n
  · rw [if_pos h, List.getD_eq_getElem?_getD, List.getD_eq_getElem?_getD, List.getElem?_append_left (by omega)]
  · rw [if_neg h, List.getD_eq_getElem?_getD (l := w ++ [d]), List.getElem?_append_right (by omega), hn, show j - n = 0 by omega]
    rfl
theorem ref_Least {l : List Rat} (h : l ≠ []) (hq : ∀ q ∈ l, qs q) (hl : l.length < 1073741824) : C E 48 [rqlD l] (rsD (leF l (l.length - 1))) := by
  refine CG_intro Tryz.func48 rfl (by kernel_rfl) rfl (by kernel_rfl) (by kernel_rfl) rfl ?_
  have hp := List.length_pos_iff.2 h
  have hp0 : rqR l 0 = rqD (l.getD 0 0) := rfl
  simp (maxSteps := 3000000) (disch := first | exact trivial | assumption | omega | exact rOk | exact rCl | exact rNo) only [go_sem, seval, rqlD, hp0]
  refine AL.of (fun k : Nat => k + 1 ≤ l.length) (fun k => l.length - k) (fun k => [(0, rqlD l), (2, .ad 0 0), (3, .ad 1 0), (4, .int .i64 ((k + 1 : Nat) : Int))]) (fun k => [(1, .var true 6 (rsD (leF l k))), (0, .var true 6 (.agg [.bool false, .nils, .nils, .bool false, .nils, .nils]))]) 0 (by omega) ?_ ?_ ?_ ?_
  · simp (maxSteps := 3000000) (disch := first | exact trivial | assumption | omega | exact rOk | exact rCl | exact rNo) only [go_sem, seval, rqlD]
    try exact LeV.refl _
  · simp (maxSteps := 3000000) (disch := first | exact trivial | assumption | omega | exact rOk | exact rCl | exact rNo) only [go_sem, seval]
    try exact LeV.refl _
  · intro x _; simp (maxSteps := 3000000) (disch := first | exact trivial | assumption | omega | exact rOk | exact rCl | exact rNo) only [go_sem, seval]
  intro k hk
  by_cases hkl : k + 1 = l.length
  · have e : leF l (l.length - 1) = leF l k := by rw [← hkl]; rfl
    rw [e]
    generalize leF l k = p at *
    simp (maxSteps := 3000000) (disch := first | exact trivial | assumption | omega | exact rOk | exact rCl | exact rNo) only [go_sem, seval, rqlD]
    try exact LeV.refl _
  · have hk' : k + 1 < l.length := by omega
    have i0 : (((k + 1 : Nat) : Int)).toNat = k + 1 := by omega
    have hp : rqR l (k + 1) = rqD (l.getD (k + 1) 0) := rfl
    have hm : l.getD (k + 1) 0 ∈ l := by
      rw [List.getD_eq_getElem?_getD, List.getElem?_eq_getElem hk']; exact List.getElem_mem hk'
    obtain ⟨m1, m2⟩ := leF_in l h k (by omega)
    have hnx : leF l (k + 1) = (if l.getD (k + 1) 0 < (leF l k).1 then l.getD (k + 1) 0 else (leF l k).1, if (leF l k).2 < l.getD (k + 1) 0 then l.getD (k + 1) 0 else (leF l k).2) := rfl
    have q1 := hq _ hm
    have q2 := hq _ m1
    have q3 := hq _ m2
    generalize leF l k = p at *
    generalize l.getD (k + 1) 0 = x at *
    have c1 := ref_RatCmp q1 q2
    have c2 := ref_RatCmp q1 q3
    have g1 := sgQ_lt x p.1
    have g2 := sgQ_gt x p.2
    simp (maxSteps := 3000000) (disch := first | exact trivial | assumption | omega | exact rOk | exact rCl | exact rNo) only [go_sem, seval, rqlD, i0, hp]
    refine callCl c1 ?_ rfl ?_
    · simp (maxSteps := 3000000) (disch := first | exact trivial | assumption | omega | exact rOk | exact rCl | exact rNo) only [go_sem, seval, rqlD, i0, hp]
      try exact LesV.refl _
    simp (maxSteps := 3000000) (disch := first | exact trivial | assumption | omega | exact rOk | exact rCl | exact rNo) only [go_sem, seval, rqlD, i0, hp]
    by_cases h1 : x < p.1
    · rw [decide_eq_true h1] at g1
      rw [if_pos h1] at hnx
      simp (maxSteps := 3000000) (disch := first | exact trivial | assumption | omega | exact rOk | exact rCl | exact rNo) only [go_sem, seval, rqlD, i0, hp, g1]
      refine callCl c2 ?_ rfl ?_
      · simp (maxSteps := 3000000) (disch := first | exact trivial | assumption | omega | exact rOk | exact rCl | exact rNo) only [go_sem, seval, rqlD, i0, hp]
        try exact LesV.refl _
      simp (maxSteps := 3000000) (disch := first | exact trivial | assumption | omega | exact rOk | exact rCl | exact rNo) only [go_sem, seval, rqlD, i0, hp]
      by_cases h2 : p.2 < x
      · rw [decide_eq_true h2] at g2
        rw [if_pos h2] at hnx
        simp (maxSteps := 3000000) (disch := first | exact trivial | assumption | omega | exact rOk | exact rCl | exact rNo) only [go_sem, seval, rqlD, i0, hp, g2]
        refine ⟨k + 1, by omega, by show l.length - (k + 1) < l.length - k; omega, ?_, ?_⟩
        · simp (maxSteps := 3000000) (disch := first | exact trivial | assumption | omega | exact rOk | exact rCl | exact rNo) only [go_sem, seval, rqlD]
          try exact LeV_int (by omega)
        · simp (maxSteps := 3000000) (disch := first | exact trivial | assumption | omega | exact rOk | exact rCl | exact rNo) only [go_sem, seval, hnx]
          try exact LeV.refl _
      · rw [decide_eq_false h2] at g2
        rw [if_neg h2] at hnx
        simp (maxSteps := 3000000) (disch := first | exact trivial | assumption | omega | exact rOk | exact rCl | exact rNo) only [go_sem, seval, rqlD, i0, hp, g2]
        refine ⟨k + 1, by omega, by show l.length - (k + 1) < l.length - k; omega, ?_, ?_⟩
        · simp (maxSteps := 3000000) (disch := first | exact trivial | assumption | omega | exact rOk | exact rCl | exact rNo) only [go_sem, seval, rqlD]
          try exact LeV_int (by omega)
        · simp (maxSteps := 3000000) (disch := first | exact trivial | assumption | omega | exact rOk | exact rCl | exact rNo) only [go_sem, seval, hnx]
          try exact LeV.refl _
    · rw [decide_eq_false h1] at g1
      rw [if_neg h1] at hnx
      simp (maxSteps := 3000000) (disch := first | exact trivial | assumption | omega | exact rOk | exact rCl | exact rNo) only [go_sem, seval, rqlD, i0, hp, g1]
      refine callCl c2 ?_ rfl ?_
      · simp (maxSteps := 3000000) (disch := first | exact trivial | assumption | omega | exact rOk | exact rCl | exact rNo) only [go_sem, seval, rqlD, i0, hp]
        try exact LesV.refl _
      simp (maxSteps := 3000000) (disch := first | exact trivial | assumption | omega | exact rOk | exact rCl | exact rNo) only [go_sem, seval, rqlD, i0, hp]
      by_cases h2 : p.2 < x
      · rw [decide_eq_true h2] at g2
        rw [if_pos h2] at hnx
        simp (maxSteps := 3000000) (disch := first | exact trivial | assumption | omega | exact rOk | exact rCl | exact rNo) only [go_sem, seval, rqlD, i0, hp, g2]
        refine ⟨k + 1, by omega, by show l.length - (k + 1) < l.length - k; omega, ?_, ?_⟩
        · simp (maxSteps := 3000000) (disch := first | exact trivial | assumption | omega | exact rOk | exact rCl | exact rNo) only [go_sem, seval, rqlD]
          try exact LeV_int (by omega)
        · simp (maxSteps := 3000000) (disch := first | exact trivial | assumption | omega | exact rOk | exact rCl | exact rNo) only [go_sem, seval, hnx]
          try exact LeV.refl _
      · rw [decide_eq_false h2] at g2
        rw [if_neg h2] at hnx
        simp (maxSteps := 3000000) (disch := first | exact trivial | assumption | omega | exact rOk | exact rCl | exact rNo) only [go_sem, seval, rqlD, i0, hp, g2]
        refine ⟨k + 1, by omega, by show l.length - (k + 1) < l.length - k; omega, ?_, ?_⟩
        · simp (maxSteps := 3000000) (disch := first | exact trivial | assumption | omega | exact rOk | exact rCl | exact rNo) only [go_sem, seval, rqlD]
          try exact LeV_int (by omega)
        · simp (maxSteps := 3000000) (disch := first | exact trivial | assumption | omega | exact rOk | exact rCl | exact rNo) only [go_sem, seval, hnx]
          try exact LeV.refl _
end Go.Proofs.YtmcinfbckdiaoaaGreatDoor.Lv

set_option linter.unusedVariables false
set_option linter.unusedSimpArgs false
set_option maxRecDepth 100000
set_option maxHeartbeats 4000000
namespace Go.Proofs.YtmcinfbckdiaoaaGreatDoor.Lv
open Go Go.RowKit
/-- Are both boxes, of as many sides? -/
def twoB (a b : List (Rat × Rat)) : Bool := decide (a.length = b.length) && (rightB a && rightB b)
theorem box_two {a b : List (Rat × Rat)} (ha : ∀ p ∈ a, qs p.1 ∧ qs p.2) (hb : ∀ p ∈ b, qs p.1 ∧ qs p.2) (hla : a.length < 1073741824) (hlb : b.length < 1073741824) : C E 74 [bxD a, bxD b] (.bool (twoB a b)) := by
  refine CG_intro Tryz.func74 rfl (by kernel_rfl) rfl (by kernel_rfl) (by kernel_rfl) rfl ?_
  have r1 := box_Right ha hla
  have r2 := box_Right hb hlb
  unfold twoB
  by_cases hl : a.length = b.length
  · rw [decide_eq_true hl, Bool.true_and]
    simp (maxSteps := 3000000) (disch := first | exact trivial | assumption | omega | exact rOk | exact rCl | exact rNo) only [go_sem, seval, bxD]
    refine callC r1 ?_ rfl ?_
    · simp (maxSteps := 3000000) (disch := first | exact trivial | assumption | omega | exact rOk | exact rCl | exact rNo) only [go_sem, seval]
      try exact LesV.refl _
    rcases Bool.eq_false_or_eq_true (rightB a) with h | h
    · rw [h, Bool.true_and]
      simp (maxSteps := 3000000) (disch := first | exact trivial | assumption | omega | exact rOk | exact rCl | exact rNo) only [go_sem, seval, bxD]
      refine callC r2 ?_ rfl ?_
      · simp (maxSteps := 3000000) (disch := first | exact trivial | assumption | omega | exact rOk | exact rCl | exact rNo) only [go_sem, seval]
        try exact LesV.refl _
      simp (maxSteps := 3000000) (disch := first | exact trivial | assumption | omega | exact rOk | exact rCl | exact rNo) only [go_sem, seval, bxD]
      try exact LeV.refl _
    · rw [h, Bool.false_and]
      simp (maxSteps := 3000000) (disch := first | exact trivial | assumption | omega | exact rOk | exact rCl | exact rNo) only [go_sem, seval, bxD]
  · rw [decide_eq_false hl, Bool.false_and]
    simp (maxSteps := 3000000) (disch := first | exact trivial | assumption | omega | exact rOk | exact rCl | exact rNo) only [go_sem, seval, bxD]
def hullF (a b : List (Rat × Rat)) (n : Nat) : List (Rat × Rat) := (List.range n).map fun j => hullQ (a.getD j (0, 0)) (b.getD j (0, 0))
theorem hullF_len (a b : List (Rat × Rat)) (n : Nat) : (hullF a b n).length = n := by
  unfold hullF; rw [List.length_map, List.length_range]
theorem hullF_succ (a b : List (Rat × Rat)) (n : Nat) : hullF a b (n + 1) = hullF a b n ++ [hullQ (a.getD n (0, 0)) (b.getD n (0, 0))] := by
  unfold hullF; rw [List.range_succ, List.map_append]; rfl
theorem twoB_iff {a b : List (Rat × Rat)} : twoB a b = true ↔ a.length = b.length ∧ rightB a = true ∧ rightB b = true := by
  unfold twoB
  rw [Bool.and_eq_true, Bool.and_eq_true, decide_eq_true_iff]
theorem box_Hull_no {a b : List (Rat × Rat)} (ha : ∀ p ∈ a, qs p.1 ∧ qs p.2) (hb : ∀ p ∈ b, qs p.1 ∧ qs p.2) (hla : a.length < 1073741824) (hlb : b.length < 1073741824) (h : twoB a b = false) : C E 40 [bxD a, bxD b] (.tup [.nils, .bool false]) := by
  refine CG_intro Tryz.func40 rfl (by kernel_rfl) rfl (by kernel_rfl) (by kernel_rfl) rfl ?_
  have h2 := box_two ha hb hla hlb
  rw [h] at h2
  simp (maxSteps := 3000000) (disch := first | exact trivial | assumption | omega | exact rOk | exact rCl | exact rNo) only [go_sem, seval]
  refine callC h2 ?_ rfl ?_
  · simp (maxSteps := 3000000) (disch := first | exact trivial | assumption | omega | exact rOk | exact rCl | exact rNo) only [go_sem, seval]
    try exact LesV.refl _
  simp (maxSteps := 3000000) (disch := first | exact trivial | assumption | omega | exact rOk | exact rCl | exact rNo) only [go_sem, seval]
theorem getD_in {l : List (Rat × Rat)} {i : Nat} (hi : i < l.length) : l.getD i (0, 0) ∈ l := by
  rw [List.getD_eq_getElem?_getD, List.getElem?_eq_getElem hi]; exact List.getElem_mem hi
theorem box_Hull {a b : List (Rat × Rat)} (ha : ∀ p ∈ a, qs p.1 ∧ qs p.2) (hb : ∀ p ∈ b, qs p.1 ∧ qs p.2) (hla : a.length < 1073741824) (hlb : b.length < 1073741824) (h : twoB a b = true) : C E 40 [bxD a, bxD b] (.tup [bxD (hullF a b a.length), .bool true]) := by
  refine CG_intro Tryz.func40 rfl (by kernel_rfl) rfl (by kernel_rfl) (by kernel_rfl) rfl ?_
  have h2 := box_two ha hb hla hlb
  rw [h] at h2
  obtain ⟨hl, _, _⟩ := twoB_iff.1 h
  simp (maxSteps := 3000000) (disch := first | exact trivial | assumption | omega | exact rOk | exact rCl | exact rNo) only [go_sem, seval]
  refine callC h2 ?_ rfl ?_
  · simp (maxSteps := 3000000) (disch := first | exact trivial | assumption | omega | exact rOk | exact rCl | exact rNo) only [go_sem, seval]
    try exact LesV.refl _
  simp (maxSteps := 3000000) (disch := first | exact trivial | assumption | omega | exact rOk | exact rCl | exact rNo) only [go_sem, seval, bxD]
  refine AL.ofN 6 true 6 (fun _ => .unk) (fun i : Nat => i ≤ a.length) (fun i => a.length - i) (fun i => [(0, bxD a), (1, bxD b), (6, .sl 0 i 0 i), (13, .int .i64 a.length), (14, .int .i64 i)]) (fun i => [(0, .row false i true 6 i (pR (hullF a b i)))]) 0 (by simp (maxSteps := 3000000) (disch := first | exact trivial | assumption | omega | exact rOk | exact rCl | exact rNo) only [go_sem, seval]) (Nat.zero_le _) ?_ ?_ ?_ ?_
  · simp (maxSteps := 3000000) (disch := first | exact trivial | assumption | omega | exact rOk | exact rCl | exact rNo) only [go_sem, seval, bxD]
    try exact LeV.refl _
  · simp (maxSteps := 3000000) (disch := first | exact trivial | assumption | omega | exact rOk | exact rCl | exact rNo) only [go_sem, seval]
    try exact fun j hj => absurd hj (by omega)
  · intro x _; simp (maxSteps := 3000000) (disch := first | exact trivial | assumption | omega | exact rOk | exact rCl | exact rNo) only [go_sem, seval]
  intro i hi
  by_cases hil : i = a.length
  · subst hil
    simp (maxSteps := 3000000) (disch := first | exact trivial | assumption | omega | exact rOk | exact rCl | exact rNo) only [go_sem, seval, bxD]
    exact LeV.tup (LesV.cons (LeV.ro (by rw [hullF_len]) fun j hj => Le.refl _) (LesV.refl _))
  · have hil' : i < a.length := by omega
    have hp : pR a i = sD (a.getD i (0, 0)) := rfl
    have hp2 : pR b i = sD (b.getD i (0, 0)) := rfl
    have hib : i < b.length := by omega
    have q1 := ha _ (getD_in hil')
    have q2 := hb _ (getD_in (l := b) (i := i) (by omega))
    have h := span_Hull q1 q2
    have ht := hullF_succ a b i
    have hw := hullF_len a b i
    generalize a.getD i (0, 0) = p at *
    generalize b.getD i (0, 0) = q at *
    simp (maxSteps := 3000000) (disch := first | exact trivial | assumption | omega | exact rOk | exact rCl | exact rNo) only [go_sem, seval, bxD, hp, hp2]
    refine callCl h ?_ rfl ?_
    · simp (maxSteps := 3000000) (disch := first | exact trivial | assumption | omega | exact rOk | exact rCl | exact rNo) only [go_sem, seval]
      try exact LesV.refl _
    simp (maxSteps := 3000000) (disch := first | exact trivial | assumption | omega | exact rOk | exact rCl | exact rNo) only [go_sem, seval, bxD]
    refine ⟨.inl trivial, .inr trivial, by omega, by omega, ?_⟩
    refine ⟨i + 1, hil', by show a.length - (i + 1) < a.length - i; omega, ?_, ?_⟩
    · simp (maxSteps := 3000000) (disch := first | exact trivial | assumption | omega | exact rOk | exact rCl | exact rNo) only [go_sem, seval, bxD]
      try exact LeV_int (by omega)
    · simp (maxSteps := 3000000) (disch := first | exact trivial | assumption | omega | exact rOk | exact rCl | exact rNo) only [go_sem, seval, ht]
      exact fun j hj => Le.of_eq (pR_snoc hw hj)
def allB (f : Nat → Bool) (n : Nat) : Bool := (List.range n).all f
theorem allB_t {f : Nat → Bool} {n : Nat} (h : ∀ j, j < n → f j = true) : allB f n = true := List.all_eq_true.2 fun j hj => h j (List.mem_range.1 hj)
theorem allB_f {f : Nat → Bool} {n j : Nat} (hj : j < n) (h : f j = false) : allB f n = false := by
  rw [Bool.eq_false_iff]
  intro h2
  have := List.all_eq_true.1 h2 j (List.mem_range.2 hj)
  rw [h] at this; cases this
theorem and_all {t : Bool} {F : Nat → Bool} {n m : Nat} (h : t = true → n ≤ m) (hall : ∀ j, j < m → F j = true) : (t && allB F n) = t := by
  cases t with
  | false => rfl
  | true => rw [Bool.true_and]; exact allB_t fun j hj => hall j (Nat.lt_of_lt_of_le hj (h rfl))
theorem and_not {t : Bool} {F : Nat → Bool} {n m j : Nat} (h : t = true → m ≤ n) (hj : j < m) (hf : F j = false) : (t && allB F n) = false := by
  cases t with
  | false => rfl
  | true => rw [Bool.true_and]; exact allB_f (Nat.lt_of_lt_of_le hj (h rfl)) hf
theorem two_len {a b : List (Rat × Rat)} (h : twoB a b = true) : a.length = b.length := (twoB_iff.1 h).1
/-- Have both a point that is on no edge? -/
def meB (p q : Rat × Rat) : Bool := decide (p.1 < q.2) && decide (q.1 < p.2)
/-- Is it a box of as many sides as there are numbers? -/
def hoB (a : List (Rat × Rat)) (x : List Rat) : Bool := decide (a.length = x.length) && rightB a
theorem hoB_iff {a : List (Rat × Rat)} {x : List Rat} : hoB a x = true ↔ a.length = x.length ∧ rightB a = true := by
  unfold hoB
  rw [Bool.and_eq_true, decide_eq_true_iff]
theorem ho_len {a : List (Rat × Rat)} {x : List Rat} (h : hoB a x = true) : a.length = x.length := (hoB_iff.1 h).1
theorem getQ_in {l : List Rat} {i : Nat} (hi : i < l.length) : l.getD i 0 ∈ l := by
  rw [List.getD_eq_getElem?_getD, List.getElem?_eq_getElem hi]; exact List.getElem_mem hi
theorem box_Within {a : List (Rat × Rat)} {b : List (Rat × Rat)} (ha : ∀ p ∈ a, qs p.1 ∧ qs p.2) (hb : ∀ p ∈ b, qs p.1 ∧ qs p.2) (hla : a.length < 1073741824) (hlb : b.length < 1073741824) : C E 41 [bxD a, bxD b] (.bool (twoB a b && allB (fun j => inB (a.getD j (0, 0)) (b.getD j (0, 0))) a.length)) := by
  refine CG_intro Tryz.func41 rfl (by kernel_rfl) rfl (by kernel_rfl) (by kernel_rfl) rfl ?_
  have h2 := box_two ha hb hla hlb
  simp (maxSteps := 3000000) (disch := first | exact trivial | assumption | omega | exact rOk | exact rCl | exact rNo) only [go_sem, seval, bxD]
  refine AL.of (fun i : Nat => i ≤ (min a.length b.length) ∧ ∀ j, j < i → inB (a.getD j (0, 0)) (b.getD j (0, 0)) = true) (fun i => (min a.length b.length) - i) (fun i => [(0, bxD a), (1, bxD b), (10, .int .i64 ((min a.length b.length : Nat) : Int)), (11, .int .i64 i)]) (fun _ => []) 0 ⟨Nat.zero_le _, fun j hj => by omega⟩ ?_ ?_ ?_ ?_
  · simp (maxSteps := 3000000) (disch := first | exact trivial | assumption | omega | exact rOk | exact rCl | exact rNo) only [go_sem, seval, bxD]
    try exact LeV_int (by omega)
  · simp (maxSteps := 3000000) (disch := first | exact trivial | assumption | omega | exact rOk | exact rCl | exact rNo) only [go_sem, seval]
  · intro x _; simp (maxSteps := 3000000) (disch := first | exact trivial | assumption | omega | exact rOk | exact rCl | exact rNo) only [go_sem, seval]
  rintro i ⟨hi, hall⟩
  by_cases hil : i = (min a.length b.length)
  · subst hil
    rw [and_all (fun h => by have := (two_len h); omega) hall]
    simp (maxSteps := 3000000) (disch := first | exact trivial | assumption | omega | exact rOk | exact rCl | exact rNo) only [go_sem, seval, bxD]
    refine callC h2 ?_ rfl ?_
    · simp (maxSteps := 3000000) (disch := first | exact trivial | assumption | omega | exact rOk | exact rCl | exact rNo) only [go_sem, seval]
      try exact LesV.refl _
    simp (maxSteps := 3000000) (disch := first | exact trivial | assumption | omega | exact rOk | exact rCl | exact rNo) only [go_sem, seval, bxD]
    try exact LeV.refl _
  · have hia : i < a.length := by omega
    have hib : i < b.length := by omega
    have hp1 : pR a i = sD (a.getD i (0, 0)) := rfl
    have hp2 : pR b i = sD (b.getD i (0, 0)) := rfl
    have q1 := ha _ (getD_in hia)
    have q2 := hb _ (getD_in hib)
    generalize hA : a.getD i (0, 0) = p at *
    generalize hB : b.getD i (0, 0) = q at *
    have hc : C E 76 [sD p, sD q] (.bool (inB p q)) := span_Within q1 q2
    simp (maxSteps := 3000000) (disch := first | exact trivial | assumption | omega | exact rOk | exact rCl | exact rNo) only [go_sem, seval, bxD, hp1, hp2]
    refine callCl hc ?_ rfl ?_
    · simp (maxSteps := 3000000) (disch := first | exact trivial | assumption | omega | exact rOk | exact rCl | exact rNo) only [go_sem, seval]
      try exact LesV.refl _
    rcases Bool.eq_false_or_eq_true (inB p q) with hf | hf
    · simp (maxSteps := 3000000) (disch := first | exact trivial | assumption | omega | exact rOk | exact rCl | exact rNo) only [go_sem, seval, bxD, hf]
      refine ⟨i + 1, ⟨by omega, fun j hj => ?_⟩, by show (min a.length b.length) - (i + 1) < (min a.length b.length) - i; omega, ?_, ?_⟩
      · by_cases hji : j = i
        · subst hji; rw [hA, hB]; exact hf
        · exact hall j (by omega)
      · simp (maxSteps := 3000000) (disch := first | exact trivial | assumption | omega | exact rOk | exact rCl | exact rNo) only [go_sem, seval, bxD]
        try exact LeV_int (by omega)
      · simp (maxSteps := 3000000) (disch := first | exact trivial | assumption | omega | exact rOk | exact rCl | exact rNo) only [go_sem, seval]
    · rw [and_not (m := (min a.length b.length)) (j := i) (fun h => by have := (two_len h); omega) (by omega) (by rw [hA, hB]; exact hf)]
      simp (maxSteps := 3000000) (disch := first | exact trivial | assumption | omega | exact rOk | exact rCl | exact rNo) only [go_sem, seval, bxD, hf]
end Go.Proofs.YtmcinfbckdiaoaaGreatDoor.Lv

set_option linter.unusedVariables false
set_option linter.unusedSimpArgs false
set_option maxRecDepth 100000
set_option maxHeartbeats 4000000
namespace Go.Proofs.YtmcinfbckdiaoaaGreatDoor.Lv
open Go Go.RowKit
theorem ref_BoxWithin {a : List (Rat × Rat)} {b : List (Rat × Rat)} (ha : ∀ p ∈ a, qs p.1 ∧ qs p.2) (hb : ∀ p ∈ b, qs p.1 ∧ qs p.2) (hla : a.length < 1073741824) (hlb : b.length < 1073741824) : C E 42 [rbD a, rbD b] (.bool (twoB a b && allB (fun j => inB (a.getD j (0, 0)) (b.getD j (0, 0))) a.length)) := by
  refine CG_intro Tryz.func42 rfl (by kernel_rfl) rfl (by kernel_rfl) (by kernel_rfl) rfl ?_
  have r1 := ref_BoxRight ha hla
  have r2 := ref_BoxRight hb hlb
  simp (maxSteps := 3000000) (disch := first | exact trivial | assumption | omega | exact rOk | exact rCl | exact rNo) only [go_sem, seval]
  refine callC r1 ?_ rfl ?_
  · simp (maxSteps := 3000000) (disch := first | exact trivial | assumption | omega | exact rOk | exact rCl | exact rNo) only [go_sem, seval]
    try exact LesV.refl _
  rcases Bool.eq_false_or_eq_true (rightB a) with hra | hra
  case inr =>
    have ht : twoB a b = false := by unfold twoB; rw [hra]; simp
    rw [ht, hra, Bool.false_and]
    simp (maxSteps := 3000000) (disch := first | exact trivial | assumption | omega | exact rOk | exact rCl | exact rNo) only [go_sem, seval]
  case inl =>
  rw [hra]
  simp (maxSteps := 3000000) (disch := first | exact trivial | assumption | omega | exact rOk | exact rCl | exact rNo) only [go_sem, seval]
  refine callC r2 ?_ rfl ?_
  · simp (maxSteps := 3000000) (disch := first | exact trivial | assumption | omega | exact rOk | exact rCl | exact rNo) only [go_sem, seval]
    try exact LesV.refl _
  rcases Bool.eq_false_or_eq_true (rightB b) with hrb | hrb
  case inr =>
    have ht : twoB a b = false := by unfold twoB; rw [hrb]; simp
    rw [ht, hrb, Bool.false_and]
    simp (maxSteps := 3000000) (disch := first | exact trivial | assumption | omega | exact rOk | exact rCl | exact rNo) only [go_sem, seval]
  case inl =>
  rw [hrb]
  by_cases hl : a.length = b.length
  case neg =>
    have ht : twoB a b = false := by unfold twoB; rw [decide_eq_false hl]; rfl
    rw [ht, Bool.false_and]
    simp (maxSteps := 3000000) (disch := first | exact trivial | assumption | omega | exact rOk | exact rCl | exact rNo) only [go_sem, seval, rbD]
  case pos =>
  have ht : twoB a b = true := twoB_iff.2 ⟨hl, hra, hrb⟩
  simp (maxSteps := 3000000) (disch := first | exact trivial | assumption | omega | exact rOk | exact rCl | exact rNo) only [go_sem, seval, rbD]
  refine AL.of (fun i : Nat => i ≤ a.length ∧ ∀ j, j < i → inB (a.getD j (0, 0)) (b.getD j (0, 0)) = true) (fun i => a.length - i) (fun i => [(0, rbD a), (1, rbD b), (5, .int .i64 i)]) (fun _ => []) 0 ⟨Nat.zero_le _, fun j hj => by omega⟩ ?_ ?_ ?_ ?_
  · simp (maxSteps := 3000000) (disch := first | exact trivial | assumption | omega | exact rOk | exact rCl | exact rNo) only [go_sem, seval, rbD]
    try exact LeV_int (by omega)
  · simp (maxSteps := 3000000) (disch := first | exact trivial | assumption | omega | exact rOk | exact rCl | exact rNo) only [go_sem, seval]
  · intro x _; simp (maxSteps := 3000000) (disch := first | exact trivial | assumption | omega | exact rOk | exact rCl | exact rNo) only [go_sem, seval]
  rintro i ⟨hi, hall⟩
  by_cases hil : i = a.length
  · subst hil
    rw [and_all (fun _ => Nat.le_refl _) hall]
    rw [ht]
    simp (maxSteps := 3000000) (disch := first | exact trivial | assumption | omega | exact rOk | exact rCl | exact rNo) only [go_sem, seval, rbD]
  · have hia : i < a.length := by omega
    have hib : i < b.length := by omega
    have hp1 : rsR a i = rsD (a.getD i (0, 0)) := rfl
    have hp2 : rsR b i = rsD (b.getD i (0, 0)) := rfl
    have q1 := ha _ (getD_in hia)
    have q2 := hb _ (getD_in hib)
    generalize hA : a.getD i (0, 0) = p at *
    generalize hB : b.getD i (0, 0) = q at *
    have hc : C E 77 [rsD p, rsD q] (.bool (inB p q)) := ref_SpanWithin q1 q2
    simp (maxSteps := 3000000) (disch := first | exact trivial | assumption | omega | exact rOk | exact rCl | exact rNo) only [go_sem, seval, rbD, hp1, hp2]
    refine callCl hc ?_ rfl ?_
    · simp (maxSteps := 3000000) (disch := first | exact trivial | assumption | omega | exact rOk | exact rCl | exact rNo) only [go_sem, seval]
      try exact LesV.refl _
    rcases Bool.eq_false_or_eq_true (inB p q) with hf | hf
    · simp (maxSteps := 3000000) (disch := first | exact trivial | assumption | omega | exact rOk | exact rCl | exact rNo) only [go_sem, seval, rbD, hf]
      refine ⟨i + 1, ⟨by omega, fun j hj => ?_⟩, by show a.length - (i + 1) < a.length - i; omega, ?_, ?_⟩
      · by_cases hji : j = i
        · subst hji; rw [hA, hB]; exact hf
        · exact hall j (by omega)
      · simp (maxSteps := 3000000) (disch := first | exact trivial | assumption | omega | exact rOk | exact rCl | exact rNo) only [go_sem, seval, rbD]
        try exact LeV_int (by omega)
      · simp (maxSteps := 3000000) (disch := first | exact trivial | assumption | omega | exact rOk | exact rCl | exact rNo) only [go_sem, seval]
    · rw [and_not (m := a.length) (j := i) (fun _ => Nat.le_refl _) (by omega) (by rw [hA, hB]; exact hf)]
      simp (maxSteps := 3000000) (disch := first | exact trivial | assumption | omega | exact rOk | exact rCl | exact rNo) only [go_sem, seval, rbD, hf]
theorem box_Meets {a : List (Rat × Rat)} {b : List (Rat × Rat)} (ha : ∀ p ∈ a, qs p.1 ∧ qs p.2) (hb : ∀ p ∈ b, qs p.1 ∧ qs p.2) (hla : a.length < 1073741824) (hlb : b.length < 1073741824) : C E 43 [bxD a, bxD b] (.bool (twoB a b && allB (fun j => meB (a.getD j (0, 0)) (b.getD j (0, 0))) a.length)) := by
  refine CG_intro Tryz.func43 rfl (by kernel_rfl) rfl (by kernel_rfl) (by kernel_rfl) rfl ?_
  have h2 := box_two ha hb hla hlb
  simp (maxSteps := 3000000) (disch := first | exact trivial | assumption | omega | exact rOk | exact rCl | exact rNo) only [go_sem, seval, bxD]
  refine AL.of (fun i : Nat => i ≤ (min a.length b.length) ∧ ∀ j, j < i → meB (a.getD j (0, 0)) (b.getD j (0, 0)) = true) (fun i => (min a.length b.length) - i) (fun i => [(0, bxD a), (1, bxD b), (10, .int .i64 ((min a.length b.length : Nat) : Int)), (11, .int .i64 i)]) (fun _ => []) 0 ⟨Nat.zero_le _, fun j hj => by omega⟩ ?_ ?_ ?_ ?_
  · simp (maxSteps := 3000000) (disch := first | exact trivial | assumption | omega | exact rOk | exact rCl | exact rNo) only [go_sem, seval, bxD]
    try exact LeV_int (by omega)
  · simp (maxSteps := 3000000) (disch := first | exact trivial | assumption | omega | exact rOk | exact rCl | exact rNo) only [go_sem, seval]
  · intro x _; simp (maxSteps := 3000000) (disch := first | exact trivial | assumption | omega | exact rOk | exact rCl | exact rNo) only [go_sem, seval]
  rintro i ⟨hi, hall⟩
  by_cases hil : i = (min a.length b.length)
  · subst hil
    rw [and_all (fun h => by have := (two_len h); omega) hall]
    simp (maxSteps := 3000000) (disch := first | exact trivial | assumption | omega | exact rOk | exact rCl | exact rNo) only [go_sem, seval, bxD]
    refine callC h2 ?_ rfl ?_
    · simp (maxSteps := 3000000) (disch := first | exact trivial | assumption | omega | exact rOk | exact rCl | exact rNo) only [go_sem, seval]
      try exact LesV.refl _
    simp (maxSteps := 3000000) (disch := first | exact trivial | assumption | omega | exact rOk | exact rCl | exact rNo) only [go_sem, seval, bxD]
    try exact LeV.refl _
  · have hia : i < a.length := by omega
    have hib : i < b.length := by omega
    have hp1 : pR a i = sD (a.getD i (0, 0)) := rfl
    have hp2 : pR b i = sD (b.getD i (0, 0)) := rfl
    have q1 := ha _ (getD_in hia)
    have q2 := hb _ (getD_in hib)
    generalize hA : a.getD i (0, 0) = p at *
    generalize hB : b.getD i (0, 0) = q at *
    have c1 := rat_Cmp q1.1 q2.2
    have c2 := rat_Cmp q2.1 q1.2
    have g1 := sgQ_ge p.1 q.2
    have g2 := sgQ_ge q.1 p.2
    simp (maxSteps := 3000000) (disch := first | exact trivial | assumption | omega | exact rOk | exact rCl | exact rNo) only [go_sem, seval, bxD, hp1, hp2]
    refine callCl c1 ?_ rfl ?_
    · simp (maxSteps := 3000000) (disch := first | exact trivial | assumption | omega | exact rOk | exact rCl | exact rNo) only [go_sem, seval]
      try exact LesV.refl _
    by_cases h1 : q.2 ≤ p.1
    · have hf : meB p q = false := by unfold meB; rw [decide_eq_false (show ¬ p.1 < q.2 by grind), Bool.false_and]
      rw [and_not (m := (min a.length b.length)) (j := i) (fun h => by have := (two_len h); omega) (by omega) (by rw [hA, hB]; exact hf)]
      rw [decide_eq_true h1] at g1
      simp (maxSteps := 3000000) (disch := first | exact trivial | assumption | omega | exact rOk | exact rCl | exact rNo) only [go_sem, seval, bxD, hp1, hp2, g1]
    · rw [decide_eq_false h1] at g1
      simp (maxSteps := 3000000) (disch := first | exact trivial | assumption | omega | exact rOk | exact rCl | exact rNo) only [go_sem, seval, bxD, hp1, hp2, g1]
      refine callCl c2 ?_ rfl ?_
      · simp (maxSteps := 3000000) (disch := first | exact trivial | assumption | omega | exact rOk | exact rCl | exact rNo) only [go_sem, seval]
        try exact LesV.refl _
      by_cases h3 : p.2 ≤ q.1
      · have hf : meB p q = false := by unfold meB; rw [decide_eq_false (show ¬ q.1 < p.2 by grind), Bool.and_false]
        rw [and_not (m := (min a.length b.length)) (j := i) (fun h => by have := (two_len h); omega) (by omega) (by rw [hA, hB]; exact hf)]
        rw [decide_eq_true h3] at g2
        simp (maxSteps := 3000000) (disch := first | exact trivial | assumption | omega | exact rOk | exact rCl | exact rNo) only [go_sem, seval, bxD, hp1, hp2, g1, g2]
      · have hf : meB p q = true := by unfold meB; rw [decide_eq_true (show q.1 < p.2 by grind), decide_eq_true (show p.1 < q.2 by grind)]; rfl
        rw [decide_eq_false h3] at g2
        simp (maxSteps := 3000000) (disch := first | exact trivial | assumption | omega | exact rOk | exact rCl | exact rNo) only [go_sem, seval, bxD, hp1, hp2, g1, g2]
        refine ⟨i + 1, ⟨by omega, fun j hj => ?_⟩, by show (min a.length b.length) - (i + 1) < (min a.length b.length) - i; omega, ?_, ?_⟩
        · by_cases hji : j = i
          · subst hji; rw [hA, hB]; exact hf
          · exact hall j (by omega)
        · simp (maxSteps := 3000000) (disch := first | exact trivial | assumption | omega | exact rOk | exact rCl | exact rNo) only [go_sem, seval, bxD]
          try exact LeV_int (by omega)
        · simp (maxSteps := 3000000) (disch := first | exact trivial | assumption | omega | exact rOk | exact rCl | exact rNo) only [go_sem, seval]
theorem ref_BoxMeets {a : List (Rat × Rat)} {b : List (Rat × Rat)} (ha : ∀ p ∈ a, qs p.1 ∧ qs p.2) (hb : ∀ p ∈ b, qs p.1 ∧ qs p.2) (hla : a.length < 1073741824) (hlb : b.length < 1073741824) : C E 44 [rbD a, rbD b] (.bool (twoB a b && allB (fun j => meB (a.getD j (0, 0)) (b.getD j (0, 0))) a.length)) := by
  refine CG_intro Tryz.func44 rfl (by kernel_rfl) rfl (by kernel_rfl) (by kernel_rfl) rfl ?_
  have r1 := ref_BoxRight ha hla
  have r2 := ref_BoxRight hb hlb
  simp (maxSteps := 3000000) (disch := first | exact trivial | assumption | omega | exact rOk | exact rCl | exact rNo) only [go_sem, seval]
  refine callC r1 ?_ rfl ?_
  · simp (maxSteps := 3000000) (disch := first | exact trivial | assumption | omega | exact rOk | exact rCl | exact rNo) only [go_sem, seval]
    try exact LesV.refl _
  rcases Bool.eq_false_or_eq_true (rightB a) with hra | hra
  case inr =>
    have ht : twoB a b = false := by unfold twoB; rw [hra]; simp
    rw [ht, hra, Bool.false_and]
    simp (maxSteps := 3000000) (disch := first | exact trivial | assumption | omega | exact rOk | exact rCl | exact rNo) only [go_sem, seval]
  case inl =>
  rw [hra]
  simp (maxSteps := 3000000) (disch := first | exact trivial | assumption | omega | exact rOk | exact rCl | exact rNo) only [go_sem, seval]
  refine callC r2 ?_ rfl ?_
  · simp (maxSteps := 3000000) (disch := first | exact trivial | assumption | omega | exact rOk | exact rCl | exact rNo) only [go_sem, seval]
    try exact LesV.refl _
  rcases Bool.eq_false_or_eq_true (rightB b) with hrb | hrb
  case inr =>
    have ht : twoB a b = false := by unfold twoB; rw [hrb]; simp
    rw [ht, hrb, Bool.false_and]
    simp (maxSteps := 3000000) (disch := first | exact trivial | assumption | omega | exact rOk | exact rCl | exact rNo) only [go_sem, seval]
  case inl =>
  rw [hrb]
  by_cases hl : a.length = b.length
  case neg =>
    have ht : twoB a b = false := by unfold twoB; rw [decide_eq_false hl]; rfl
    rw [ht, Bool.false_and]
    simp (maxSteps := 3000000) (disch := first | exact trivial | assumption | omega | exact rOk | exact rCl | exact rNo) only [go_sem, seval, rbD]
  case pos =>
  have ht : twoB a b = true := twoB_iff.2 ⟨hl, hra, hrb⟩
  simp (maxSteps := 3000000) (disch := first | exact trivial | assumption | omega | exact rOk | exact rCl | exact rNo) only [go_sem, seval, rbD]
  refine AL.of (fun i : Nat => i ≤ a.length ∧ ∀ j, j < i → meB (a.getD j (0, 0)) (b.getD j (0, 0)) = true) (fun i => a.length - i) (fun i => [(0, rbD a), (1, rbD b), (5, .int .i64 i)]) (fun _ => []) 0 ⟨Nat.zero_le _, fun j hj => by omega⟩ ?_ ?_ ?_ ?_
  · simp (maxSteps := 3000000) (disch := first | exact trivial | assumption | omega | exact rOk | exact rCl | exact rNo) only [go_sem, seval, rbD]
    try exact LeV_int (by omega)
  · simp (maxSteps := 3000000) (disch := first | exact trivial | assumption | omega | exact rOk | exact rCl | exact rNo) only [go_sem, seval]
  · intro x _; simp (maxSteps := 3000000) (disch := first | exact trivial | assumption | omega | exact rOk | exact rCl | exact rNo) only [go_sem, seval]
  rintro i ⟨hi, hall⟩
  by_cases hil : i = a.length
  · subst hil
    rw [and_all (fun _ => Nat.le_refl _) hall]
    rw [ht]
    simp (maxSteps := 3000000) (disch := first | exact trivial | assumption | omega | exact rOk | exact rCl | exact rNo) only [go_sem, seval, rbD]
  · have hia : i < a.length := by omega
    have hib : i < b.length := by omega
    have hp1 : rsR a i = rsD (a.getD i (0, 0)) := rfl
    have hp2 : rsR b i = rsD (b.getD i (0, 0)) := rfl
    have q1 := ha _ (getD_in hia)
    have q2 := hb _ (getD_in hib)
    generalize hA : a.getD i (0, 0) = p at *
    generalize hB : b.getD i (0, 0) = q at *
    have c1 := ref_RatCmp q1.1 q2.2
    have c2 := ref_RatCmp q2.1 q1.2
    have g1 := sgQ_ge p.1 q.2
    have g2 := sgQ_ge q.1 p.2
    simp (maxSteps := 3000000) (disch := first | exact trivial | assumption | omega | exact rOk | exact rCl | exact rNo) only [go_sem, seval, rbD, hp1, hp2]
    refine callCl c1 ?_ rfl ?_
    · simp (maxSteps := 3000000) (disch := first | exact trivial | assumption | omega | exact rOk | exact rCl | exact rNo) only [go_sem, seval]
      try exact LesV.refl _
    by_cases h1 : q.2 ≤ p.1
    · have hf : meB p q = false := by unfold meB; rw [decide_eq_false (show ¬ p.1 < q.2 by grind), Bool.false_and]
      rw [and_not (m := a.length) (j := i) (fun _ => Nat.le_refl _) (by omega) (by rw [hA, hB]; exact hf)]
      rw [decide_eq_true h1] at g1
      simp (maxSteps := 3000000) (disch := first | exact trivial | assumption | omega | exact rOk | exact rCl | exact rNo) only [go_sem, seval, rbD, hp1, hp2, g1]
    · rw [decide_eq_false h1] at g1
      simp (maxSteps := 3000000) (disch := first | exact trivial | assumption | omega | exact rOk | exact rCl | exact rNo) only [go_sem, seval, rbD, hp1, hp2, g1]
      refine callCl c2 ?_ rfl ?_
      · simp (maxSteps := 3000000) (disch := first | exact trivial | assumption | omega | exact rOk | exact rCl | exact rNo) only [go_sem, seval]
        try exact LesV.refl _
      by_cases h3 : p.2 ≤ q.1
      · have hf : meB p q = false := by unfold meB; rw [decide_eq_false (show ¬ q.1 < p.2 by grind), Bool.and_false]
        rw [and_not (m := a.length) (j := i) (fun _ => Nat.le_refl _) (by omega) (by rw [hA, hB]; exact hf)]
        rw [decide_eq_true h3] at g2
        simp (maxSteps := 3000000) (disch := first | exact trivial | assumption | omega | exact rOk | exact rCl | exact rNo) only [go_sem, seval, rbD, hp1, hp2, g1, g2]
      · have hf : meB p q = true := by unfold meB; rw [decide_eq_true (show q.1 < p.2 by grind), decide_eq_true (show p.1 < q.2 by grind)]; rfl
        rw [decide_eq_false h3] at g2
        simp (maxSteps := 3000000) (disch := first | exact trivial | assumption | omega | exact rOk | exact rCl | exact rNo) only [go_sem, seval, rbD, hp1, hp2, g1, g2]
        refine ⟨i + 1, ⟨by omega, fun j hj => ?_⟩, by show a.length - (i + 1) < a.length - i; omega, ?_, ?_⟩
        · by_cases hji : j = i
          · subst hji; rw [hA, hB]; exact hf
          · exact hall j (by omega)
        · simp (maxSteps := 3000000) (disch := first | exact trivial | assumption | omega | exact rOk | exact rCl | exact rNo) only [go_sem, seval, rbD]
          try exact LeV_int (by omega)
        · simp (maxSteps := 3000000) (disch := first | exact trivial | assumption | omega | exact rOk | exact rCl | exact rNo) only [go_sem, seval]
theorem box_Has {a : List (Rat × Rat)} {b : List Rat} (ha : ∀ p ∈ a, qs p.1 ∧ qs p.2) (hb : ∀ x ∈ b, qs x) (hla : a.length < 1073741824) (hlb : b.length < 1073741824) : C E 46 [bxD a, qlD b] (.bool (hoB a b && allB (fun j => hasB (a.getD j (0, 0)) (b.getD j 0)) a.length)) := by
  refine CG_intro Tryz.func46 rfl (by kernel_rfl) rfl (by kernel_rfl) (by kernel_rfl) rfl ?_
  have r1 := box_Right ha hla
  simp (maxSteps := 3000000) (disch := first | exact trivial | assumption | omega | exact rOk | exact rCl | exact rNo) only [go_sem, seval, bxD, qlD]
  refine AL.of (fun i : Nat => i ≤ (min a.length b.length) ∧ ∀ j, j < i → hasB (a.getD j (0, 0)) (b.getD j 0) = true) (fun i => (min a.length b.length) - i) (fun i => [(0, bxD a), (1, qlD b), (10, .int .i64 ((min a.length b.length : Nat) : Int)), (11, .int .i64 i)]) (fun _ => []) 0 ⟨Nat.zero_le _, fun j hj => by omega⟩ ?_ ?_ ?_ ?_
  · simp (maxSteps := 3000000) (disch := first | exact trivial | assumption | omega | exact rOk | exact rCl | exact rNo) only [go_sem, seval, bxD, qlD]
    try exact LeV_int (by omega)
  · simp (maxSteps := 3000000) (disch := first | exact trivial | assumption | omega | exact rOk | exact rCl | exact rNo) only [go_sem, seval]
  · intro x _; simp (maxSteps := 3000000) (disch := first | exact trivial | assumption | omega | exact rOk | exact rCl | exact rNo) only [go_sem, seval]
  rintro i ⟨hi, hall⟩
  by_cases hil : i = (min a.length b.length)
  · subst hil
    rw [and_all (fun h => by have := (ho_len h); omega) hall]
    unfold hoB
    by_cases hl : a.length = b.length
    · rw [decide_eq_true hl, Bool.true_and]
      simp (maxSteps := 3000000) (disch := first | exact trivial | assumption | omega | exact rOk | exact rCl | exact rNo) only [go_sem, seval, bxD, qlD]
      refine callC r1 ?_ rfl ?_
      · simp (maxSteps := 3000000) (disch := first | exact trivial | assumption | omega | exact rOk | exact rCl | exact rNo) only [go_sem, seval]
        try exact LesV.refl _
      simp (maxSteps := 3000000) (disch := first | exact trivial | assumption | omega | exact rOk | exact rCl | exact rNo) only [go_sem, seval, bxD, qlD]
      try exact LeV.refl _
    · rw [decide_eq_false hl, Bool.false_and]
      simp (maxSteps := 3000000) (disch := first | exact trivial | assumption | omega | exact rOk | exact rCl | exact rNo) only [go_sem, seval, bxD, qlD]
  · have hia : i < a.length := by omega
    have hib : i < b.length := by omega
    have hp1 : pR a i = sD (a.getD i (0, 0)) := rfl
    have hp2 : qR b i = qD (b.getD i 0) := rfl
    have q1 := ha _ (getD_in hia)
    have q2 := hb _ (getQ_in hib)
    generalize hA : a.getD i (0, 0) = p at *
    generalize hB : b.getD i 0 = q at *
    have hc : C E 80 [sD p, qD q] (.bool (hasB p q)) := span_Has q1 q2
    simp (maxSteps := 3000000) (disch := first | exact trivial | assumption | omega | exact rOk | exact rCl | exact rNo) only [go_sem, seval, bxD, qlD, hp1, hp2]
    refine callCl hc ?_ rfl ?_
    · simp (maxSteps := 3000000) (disch := first | exact trivial | assumption | omega | exact rOk | exact rCl | exact rNo) only [go_sem, seval]
      try exact LesV.refl _
    rcases Bool.eq_false_or_eq_true (hasB p q) with hf | hf
    · simp (maxSteps := 3000000) (disch := first | exact trivial | assumption | omega | exact rOk | exact rCl | exact rNo) only [go_sem, seval, bxD, qlD, hf]
      refine ⟨i + 1, ⟨by omega, fun j hj => ?_⟩, by show (min a.length b.length) - (i + 1) < (min a.length b.length) - i; omega, ?_, ?_⟩
      · by_cases hji : j = i
        · subst hji; rw [hA, hB]; exact hf
        · exact hall j (by omega)
      · simp (maxSteps := 3000000) (disch := first | exact trivial | assumption | omega | exact rOk | exact rCl | exact rNo) only [go_sem, seval, bxD, qlD]
        try exact LeV_int (by omega)
      · simp (maxSteps := 3000000) (disch := first | exact trivial | assumption | omega | exact rOk | exact rCl | exact rNo) only [go_sem, seval]
    · rw [and_not (m := (min a.length b.length)) (j := i) (fun h => by have := (ho_len h); omega) (by omega) (by rw [hA, hB]; exact hf)]
      simp (maxSteps := 3000000) (disch := first | exact trivial | assumption | omega | exact rOk | exact rCl | exact rNo) only [go_sem, seval, bxD, qlD, hf]
theorem ref_BoxHas {a : List (Rat × Rat)} {b : List Rat} (ha : ∀ p ∈ a, qs p.1 ∧ qs p.2) (hb : ∀ x ∈ b, qs x) (hla : a.length < 1073741824) (hlb : b.length < 1073741824) : C E 47 [rbD a, rqlD b] (.bool (hoB a b && allB (fun j => hasB (a.getD j (0, 0)) (b.getD j 0)) a.length)) := by
  refine CG_intro Tryz.func47 rfl (by kernel_rfl) rfl (by kernel_rfl) (by kernel_rfl) rfl ?_
  have r1 := ref_BoxRight ha hla
  simp (maxSteps := 3000000) (disch := first | exact trivial | assumption | omega | exact rOk | exact rCl | exact rNo) only [go_sem, seval]
  refine callC r1 ?_ rfl ?_
  · simp (maxSteps := 3000000) (disch := first | exact trivial | assumption | omega | exact rOk | exact rCl | exact rNo) only [go_sem, seval]
    try exact LesV.refl _
  rcases Bool.eq_false_or_eq_true (rightB a) with hra | hra
  case inr =>
    have ht : hoB a b = false := by unfold hoB; rw [hra]; simp
    rw [ht, hra, Bool.false_and]
    simp (maxSteps := 3000000) (disch := first | exact trivial | assumption | omega | exact rOk | exact rCl | exact rNo) only [go_sem, seval]
  case inl =>
  rw [hra]
  by_cases hl : a.length = b.length
  case neg =>
    have ht : hoB a b = false := by unfold hoB; rw [decide_eq_false hl]; rfl
    rw [ht, Bool.false_and]
    simp (maxSteps := 3000000) (disch := first | exact trivial | assumption | omega | exact rOk | exact rCl | exact rNo) only [go_sem, seval, rbD, rqlD]
  case pos =>
  have ht : hoB a b = true := hoB_iff.2 ⟨hl, hra⟩
  simp (maxSteps := 3000000) (disch := first | exact trivial | assumption | omega | exact rOk | exact rCl | exact rNo) only [go_sem, seval, rbD, rqlD]
  refine AL.of (fun i : Nat => i ≤ a.length ∧ ∀ j, j < i → hasB (a.getD j (0, 0)) (b.getD j 0) = true) (fun i => a.length - i) (fun i => [(0, rbD a), (1, rqlD b), (5, .int .i64 i)]) (fun _ => []) 0 ⟨Nat.zero_le _, fun j hj => by omega⟩ ?_ ?_ ?_ ?_
  · simp (maxSteps := 3000000) (disch := first | exact trivial | assumption | omega | exact rOk | exact rCl | exact rNo) only [go_sem, seval, rbD, rqlD]
    try exact LeV_int (by omega)
  · simp (maxSteps := 3000000) (disch := first | exact trivial | assumption | omega | exact rOk | exact rCl | exact rNo) only [go_sem, seval]
  · intro x _; simp (maxSteps := 3000000) (disch := first | exact trivial | assumption | omega | exact rOk | exact rCl | exact rNo) only [go_sem, seval]
  rintro i ⟨hi, hall⟩
  by_cases hil : i = a.length
  · subst hil
    rw [and_all (fun _ => Nat.le_refl _) hall]
    rw [ht]
    simp (maxSteps := 3000000) (disch := first | exact trivial | assumption | omega | exact rOk | exact rCl | exact rNo) only [go_sem, seval, rbD, rqlD]
  · have hia : i < a.length := by omega
    have hib : i < b.length := by omega
    have hp1 : rsR a i = rsD (a.getD i (0, 0)) := rfl
    have hp2 : rqR b i = rqD (b.getD i 0) := rfl
    have q1 := ha _ (getD_in hia)
    have q2 := hb _ (getQ_in hib)
    generalize hA : a.getD i (0, 0) = p at *
    generalize hB : b.getD i 0 = q at *
    have hc : C E 81 [rsD p, rqD q] (.bool (hasB p q)) := ref_SpanHas q1 q2
    simp (maxSteps := 3000000) (disch := first | exact trivial | assumption | omega | exact rOk | exact rCl | exact rNo) only [go_sem, seval, rbD, rqlD, hp1, hp2]
    refine callCl hc ?_ rfl ?_
    · simp (maxSteps := 3000000) (disch := first | exact trivial | assumption | omega | exact rOk | exact rCl | exact rNo) only [go_sem, seval]
      try exact LesV.refl _
    rcases Bool.eq_false_or_eq_true (hasB p q) with hf | hf
    · simp (maxSteps := 3000000) (disch := first | exact trivial | assumption | omega | exact rOk | exact rCl | exact rNo) only [go_sem, seval, rbD, rqlD, hf]
      refine ⟨i + 1, ⟨by omega, fun j hj => ?_⟩, by show a.length - (i + 1) < a.length - i; omega, ?_, ?_⟩
      · by_cases hji : j = i
        · subst hji; rw [hA, hB]; exact hf
        · exact hall j (by omega)
      · simp (maxSteps := 3000000) (disch := first | exact trivial | assumption | omega | exact rOk | exact rCl | exact rNo) only [go_sem, seval, rbD, rqlD]
        try exact LeV_int (by omega)
      · simp (maxSteps := 3000000) (disch := first | exact trivial | assumption | omega | exact rOk | exact rCl | exact rNo) only [go_sem, seval]
    · rw [and_not (m := a.length) (j := i) (fun _ => Nat.le_refl _) (by omega) (by rw [hA, hB]; exact hf)]
      simp (maxSteps := 3000000) (disch := first | exact trivial | assumption | omega | exact rOk | exact rCl | exact rNo) only [go_sem, seval, rbD, rqlD, hf]
end Go.Proofs.YtmcinfbckdiaoaaGreatDoor.Lv
