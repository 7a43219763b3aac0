/- The program's boxes: side, Right, Clone. -/
import Derived.Test.YtmcinfbckdiaoaaGreatDoorQC
set_option linter.unusedVariables false
set_option linter.unusedSimpArgs false
set_option maxRecDepth 100000
set_option maxHeartbeats 4000000
namespace Go.Proofs.YtmcinfbckdiaoaaGreatDoor.Lv
open Go Go.RowKit
/-- A row of intervals. -/
def pR (l : List (Rat × Rat)) : Nat → D := fun i => sD (l.getD i (0, 0))
def bxD (l : List (Rat × Rat)) : D := .ro true 6 l.length (pR l)
section
variable (l : List (Rat × Rat)) (h : Hp) (ρ : Nat → Option Nat)
theorem cl_bx : cl (bxD l) = true := Eq.trans rfl rfl
theorem flat_bx : flat (bxD l) = false := Eq.trans rfl rfl
theorem imp_bx : imp ρ h (bxD l) = bxD l := Eq.trans rfl rfl
theorem refs_bx : refs ρ (bxD l) = [] := Eq.trans rfl rfl
theorem one_bx : one h (bxD l) = true := Eq.trans rfl rfl
end
attribute [go_sem] cl_bx flat_bx imp_bx refs_bx one_bx
/-- A side's texts: both ends, and the code. -/
def sideR (lo hi : List UInt8) : (Rat × Rat) × Int :=
  if (spR lo hi).2 ≠ 0 then ((0, 0), (spR lo hi).2) else if (spR lo hi).1.2 ≤ (spR lo hi).1.1 then ((0, 0), 1) else if dyq (spR lo hi).1.1 ∧ dyq (spR lo hi).1.2 then ((spR lo hi).1, 0) else ((0, 0), 2)
theorem spR_qb (lo hi : List UInt8) : qb 4001 (spR lo hi).1.1 ∧ qb 4001 (spR lo hi).1.2 ∧ ((spR lo hi).2 = 0 ∨ (spR lo hi).2 = 1 ∨ (spR lo hi).2 = 2) := by
  have h0 : qb 4001 (0 : Rat) := by
    have h1 : nb 0 ≤ 0 := nb_lt.2 (by omega)
    have h2 : nb 1 ≤ 1 := nb_lt.2 (by omega)
    exact ⟨by show nb 0 ≤ _; omega, by show nb 1 ≤ _; omega⟩
  unfold spR
  split
  · rename_i a b ha hb
    split
    · exact ⟨h0, h0, .inr (.inl rfl)⟩
    · exact ⟨rpO_qb ha, rpO_qb hb, .inl rfl⟩
  · exact ⟨h0, h0, .inr (.inr rfl)⟩
theorem box_side (lo hi : List UInt8) (h1 : lo.length < 9223372036854775808) (h2 : hi.length < 9223372036854775808) : C E 62 [.agg [.str lo, .str hi]] (.tup [sD (sideR lo hi).1, .int .i64 (sideR lo hi).2]) := by
  refine CG_intro Tryz.func62 rfl (by kernel_rfl) rfl (by kernel_rfl) (by kernel_rfl) rfl ?_
  have hP := span_Parse lo hi h1 h2
  obtain ⟨q1, q2, q3⟩ := spR_qb lo hi
  unfold sideR
  generalize spR lo hi = s at *
  obtain ⟨⟨a, b⟩, e⟩ := s
  simp only at q1 q2 q3 hP ⊢
  have s1 := q1.qs (by omega)
  have s2 := q2.qs (by omega)
  have d1 := dyad_Of s1
  have d2 := dyad_Of s2
  have c1 := cl_dyO a
  have c2 := cl_dyO b
  have k1 : ∀ q : Rat, ∃ z e, dyO q = dyD z e := fun q => by
    unfold dyO
    split
    · exact ⟨_, _, rfl⟩
    · exact ⟨_, _, rfl⟩
  obtain ⟨z1, e1, k1a⟩ := k1 a
  obtain ⟨z2, e2, k1b⟩ := k1 b
  rw [k1a] at d1
  rw [k1b] at d2
  have hge := sgQ_ge a b
  simp (maxSteps := 3000000) (disch := first | exact trivial | assumption | omega | exact rOk | exact rCl | exact rNo) only [go_sem, seval]
  refine callC hP ?_ rfl ?_
  · simp (maxSteps := 3000000) (disch := first | exact trivial | assumption | omega | exact rOk | exact rCl | exact rNo) only [go_sem, seval]
  simp (maxSteps := 3000000) (disch := first | exact trivial | assumption | omega | exact rOk | exact rCl | exact rNo) only [go_sem, seval]
  refine callC d1 ?_ rfl ?_
  · simp (maxSteps := 3000000) (disch := first | exact trivial | assumption | omega | exact rOk | exact rCl | exact rNo) only [go_sem, seval]
    try exact LesV.refl _
  simp (maxSteps := 3000000) (disch := first | exact trivial | assumption | omega | exact rOk | exact rCl | exact rNo) only [go_sem, seval]
  refine callC d2 ?_ rfl ?_
  · simp (maxSteps := 3000000) (disch := first | exact trivial | assumption | omega | exact rOk | exact rCl | exact rNo) only [go_sem, seval]
    try exact LesV.refl _
  by_cases he : e = 0
  · subst he
    rw [if_neg (by simp)]
    simp (maxSteps := 3000000) (disch := first | exact trivial | assumption | omega | exact rOk | exact rCl | exact rNo) only [go_sem, seval]
    refine callC (rat_Cmp s1 s2) ?_ rfl ?_
    · simp (maxSteps := 3000000) (disch := first | exact trivial | assumption | omega | exact rOk | exact rCl | exact rNo) only [go_sem, seval]
      try exact LesV.refl _
    by_cases hle : b ≤ a
    · rw [if_pos hle]
      rw [decide_eq_true hle] at hge
      simp (maxSteps := 3000000) (disch := first | exact trivial | assumption | omega | exact rOk | exact rCl | exact rNo) only [go_sem, seval, hge]
      exact LeV.tup (LesV.cons LeV_s0 (LesV.refl _))
    · rw [if_neg hle]
      rw [decide_eq_false hle] at hge
      by_cases hd1 : dyq a
      · have t1 : decide (dyq a) = true := decide_eq_true hd1
        by_cases hd2 : dyq b
        · have t2 : decide (dyq b) = true := decide_eq_true hd2
          rw [if_pos ⟨hd1, hd2⟩]
          simp (maxSteps := 3000000) (disch := first | exact trivial | assumption | omega | exact rOk | exact rCl | exact rNo) only [go_sem, seval, hge, t1, t2]
        · have t2 : decide (dyq b) = false := decide_eq_false hd2
          rw [if_neg (fun h => hd2 h.2)]
          simp (maxSteps := 3000000) (disch := first | exact trivial | assumption | omega | exact rOk | exact rCl | exact rNo) only [go_sem, seval, hge, t1, t2]
          exact LeV.tup (LesV.cons LeV_s0 (LesV.refl _))
      · have t1 : decide (dyq a) = false := decide_eq_false hd1
        rw [if_neg (fun h => hd1 h.1)]
        simp (maxSteps := 3000000) (disch := first | exact trivial | assumption | omega | exact rOk | exact rCl | exact rNo) only [go_sem, seval, hge, t1]
        exact LeV.tup (LesV.cons LeV_s0 (LesV.refl _))
  · rw [if_pos he]
    have hne : (e == 0) = false := beq_eq_false_iff_ne.2 he
    simp (maxSteps := 3000000) (disch := first | exact trivial | assumption | omega | exact rOk | exact rCl | exact rNo) only [go_sem, seval, hne]
    exact LeV.tup (LesV.cons LeV_s0 (LesV.refl _))
/-- Is it a box? -/
def rightB (l : List (Rat × Rat)) : Bool := (l.all fun p => decide (p.1 < p.2)) && decide (1 ≤ l.length) && decide (l.length ≤ 3)
theorem box_Right {l : List (Rat × Rat)} (hq : ∀ p ∈ l, qs p.1 ∧ qs p.2) (hl : l.length < 1073741824) : C E 24 [bxD l] (.bool (rightB l)) := by
  refine CG_intro Tryz.func24 rfl (by kernel_rfl) rfl (by kernel_rfl) (by kernel_rfl) rfl ?_
  simp (maxSteps := 3000000) (disch := first | exact trivial | assumption | omega | exact rOk | exact rCl | exact rNo) only [go_sem, seval, bxD]
  refine AL.of (fun i : Nat => i ≤ l.length ∧ ∀ j, j < i → (l.getD j (0, 0)).1 < (l.getD j (0, 0)).2) (fun i => l.length - i) (fun i => [(0, bxD l), (5, bxD l), (6, .int .i64 l.length), (7, .int .i64 i)]) (fun _ => []) 0 ⟨Nat.zero_le _, fun j hj => by omega⟩ ?_ ?_ ?_ ?_
  · simp (maxSteps := 3000000) (disch := first | exact trivial | assumption | omega | exact rOk | exact rCl | exact rNo) only [go_sem, seval, bxD]
  · simp (maxSteps := 3000000) (disch := first | exact trivial | assumption | omega | exact rOk | exact rCl | exact rNo) only [go_sem, seval, bxD]
  · intro x _; simp (maxSteps := 3000000) (disch := first | exact trivial | assumption | omega | exact rOk | exact rCl | exact rNo) only [go_sem, seval]
  rintro i ⟨hi, hall⟩
  by_cases hil : i = l.length
  · subst hil
    have ha : (l.all fun p => decide (p.1 < p.2)) = true := List.all_eq_true.2 fun p hp => by
      obtain ⟨j, hj, rfl⟩ := List.getElem_of_mem hp
      have := hall j hj
      rw [List.getD_eq_getElem?_getD, List.getElem?_eq_getElem hj] at this
      exact decide_eq_true this
    have er : rightB l = (decide (1 ≤ l.length) && decide (l.length ≤ 3)) := by unfold rightB; rw [ha]; rfl
    rw [er]
    by_cases h1 : 1 ≤ l.length
    · by_cases h3 : l.length ≤ 3
      · rw [decide_eq_true h1, decide_eq_true h3]
        simp (maxSteps := 3000000) (disch := first | exact trivial | assumption | omega | exact rOk | exact rCl | exact rNo) only [go_sem, seval, bxD]
      · rw [decide_eq_true h1, decide_eq_false h3]
        simp (maxSteps := 3000000) (disch := first | exact trivial | assumption | omega | exact rOk | exact rCl | exact rNo) only [go_sem, seval, bxD]
    · rw [decide_eq_false h1]
      simp (maxSteps := 3000000) (disch := first | exact trivial | assumption | omega | exact rOk | exact rCl | exact rNo) only [go_sem, seval, bxD]
  · have hil' : i < l.length := by omega
    have hmem : l.getD i (0, 0) ∈ l := by
      rw [List.getD_eq_getElem?_getD, List.getElem?_eq_getElem hil']; exact List.getElem_mem hil'
    obtain ⟨s1, s2⟩ := hq _ hmem
    have hge := sgQ_ge (l.getD i (0, 0)).1 (l.getD i (0, 0)).2
    have hp : pR l i = sD (l.getD i (0, 0)) := rfl
    generalize hpp : l.getD i (0, 0) = p at *
    have hc := rat_Cmp s1 s2
    simp (maxSteps := 3000000) (disch := first | exact trivial | assumption | omega | exact rOk | exact rCl | exact rNo) only [go_sem, seval, bxD, hp]
    refine callC hc ?_ rfl ?_
    · simp (maxSteps := 3000000) (disch := first | exact trivial | assumption | omega | exact rOk | exact rCl | exact rNo) only [go_sem, seval]
      try exact LesV.refl _
    by_cases hle : p.2 ≤ p.1
    · rw [decide_eq_true hle] at hge
      have er : rightB l = false := by
        unfold rightB
        have : (l.all fun p => decide (p.1 < p.2)) = false := by
          rw [Bool.eq_false_iff]
          intro h
          have := of_decide_eq_true (List.all_eq_true.1 h p hmem)
          grind
        rw [this]; rfl
      rw [er]
      simp (maxSteps := 3000000) (disch := first | exact trivial | assumption | omega | exact rOk | exact rCl | exact rNo) only [go_sem, seval, bxD, hge]
    · rw [decide_eq_false hle] at hge
      simp (maxSteps := 3000000) (disch := first | exact trivial | assumption | omega | exact rOk | exact rCl | exact rNo) only [go_sem, seval, bxD, hge]
      refine ⟨i + 1, ⟨hil', fun j hj => ?_⟩, by show l.length - (i + 1) < l.length - i; omega, ?_, ?_⟩
      · by_cases hji : j = i
        · subst hji; rw [hpp]; grind
        · exact hall j (by omega)
      · simp (maxSteps := 3000000) (disch := first | exact trivial | assumption | omega | exact rOk | exact rCl | exact rNo) only [go_sem, seval, bxD]
        try exact LeV_int (by omega)
      · simp (maxSteps := 3000000) (disch := first | exact trivial | assumption | omega | exact rOk | exact rCl | exact rNo) only [go_sem, seval, bxD]
theorem clone_sp {l : List (Rat × Rat)} (h0 : l ≠ []) (hn : l.length < 1073741824) : CG E 52 [bxD l] [] (.sl 0 1 0 l.length) [(0, .row false 1 true 6 l.length (pR l))] := by
  refine CG_intro Tryz.func52 rfl (by kernel_rfl) rfl (by kernel_rfl) (by kernel_rfl) rfl ?_
  have hp := List.length_pos_iff.2 h0
  simp (maxSteps := 3000000) (disch := first | exact trivial | assumption | omega | exact rOk | exact rCl | exact rNo) only [go_sem, seval, bxD]
  intro b hb
  obtain rfl : b = false := by
    cases b with
    | false => rfl
    | true => have := hb rfl; omega
  rw [KE_eq]
  simp (maxSteps := 3000000) (disch := first | exact trivial | assumption | omega | exact rOk | exact rCl | exact rNo) only [go_sem, seval, bxD]
  refine ⟨.inl trivial, .inr trivial, by omega, by omega, ?_⟩
  exact fun i hi => Le.refl _
end Go.Proofs.YtmcinfbckdiaoaaGreatDoor.Lv
