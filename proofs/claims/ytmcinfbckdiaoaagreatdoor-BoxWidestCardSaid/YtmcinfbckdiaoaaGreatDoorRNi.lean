/- The book's Pairs, Within; the law's Of. -/
import Derived.Test.YtmcinfbckdiaoaaGreatDoorRb
set_option linter.unusedVariables false
set_option linter.unusedSimpArgs false
set_option maxRecDepth 100000
set_option maxHeartbeats 4000000
namespace Go.Proofs.YtmcinfbckdiaoaaGreatDoor.Lv
open Go Go.RowKit
attribute [go_sem] cl_tx flat_tx
def pairsB (l : List (Txt × Txt)) (m : Nat) : Bool := decide (l.length ≤ m) && l.all fun p => decide (p.1.length ≤ 30) && decide (p.2.length ≤ 30)
theorem book_Pairs (l : List (Txt × Txt)) {m : Nat} (hm : m < 1000) : C E 19 [txD l, .int .i64 m] (.bool (pairsB l m)) := by
  refine CG_intro Tryz.func19 rfl (by kernel_rfl) rfl (by kernel_rfl) (by kernel_rfl) rfl ?_
  by_cases hlen : l.length ≤ m
  · have e : pairsB l m = l.all fun p => decide (p.1.length ≤ 30) && decide (p.2.length ≤ 30) := by unfold pairsB; rw [decide_eq_true hlen]; rfl
    rw [e]
    simp (maxSteps := 3000000) (disch := first | exact trivial | assumption | omega | exact RegOk.mk (by decide +kernel) | exact RegCl.mk (by decide +kernel) | exact RegNo.mk (by kernel_rfl)) only [go_sem, seval, txD]
    refine AL.of (fun i : Nat => i ≤ l.length ∧ ∀ j, j < i → (l.getD j ([], [])).1.length ≤ 30 ∧ (l.getD j ([], [])).2.length ≤ 30) (fun i => l.length - i) (fun i => [(0, txD l), (5, .int .i64 i)]) (fun _ => []) 0 ⟨Nat.zero_le _, fun j hj => by omega⟩ ?_ ?_ ?_ ?_
    · simp (maxSteps := 3000000) (disch := first | exact trivial | assumption | omega | exact RegOk.mk (by decide +kernel) | exact RegCl.mk (by decide +kernel) | exact RegNo.mk (by kernel_rfl)) only [go_sem, seval, txD]
      try exact LeV.refl _
    · simp (maxSteps := 3000000) (disch := first | exact trivial | assumption | omega | exact RegOk.mk (by decide +kernel) | exact RegCl.mk (by decide +kernel) | exact RegNo.mk (by kernel_rfl)) only [go_sem, seval]
    · intro x _; simp (maxSteps := 3000000) (disch := first | exact trivial | assumption | omega | exact RegOk.mk (by decide +kernel) | exact RegCl.mk (by decide +kernel) | exact RegNo.mk (by kernel_rfl)) only [go_sem, seval]
    rintro i ⟨hi, hall⟩
    by_cases hil : i = l.length
    · subst hil
      have ha : (l.all fun p => decide (p.1.length ≤ 30) && decide (p.2.length ≤ 30)) = true := List.all_eq_true.2 fun p hp => by
        obtain ⟨j, hj, rfl⟩ := List.getElem_of_mem hp
        have := hall j hj
        rw [List.getD_eq_getElem?_getD, List.getElem?_eq_getElem hj] at this
        obtain ⟨h1, h2⟩ := this
        simp only [Option.getD_some] at h1 h2
        rw [decide_eq_true h1, decide_eq_true h2]; rfl
      rw [ha]
      simp (maxSteps := 3000000) (disch := first | exact trivial | assumption | omega | exact RegOk.mk (by decide +kernel) | exact RegCl.mk (by decide +kernel) | exact RegNo.mk (by kernel_rfl)) only [go_sem, seval, txD]
    · have hil' : i < l.length := by omega
      have hmem : l.getD i ([], []) ∈ l := by
        rw [List.getD_eq_getElem?_getD, List.getElem?_eq_getElem hil']; exact List.getElem_mem hil'
      have hp : txR l i = .agg [.str (l.getD i ([], [])).1, .str (l.getD i ([], [])).2] := rfl
      generalize hpp : l.getD i ([], []) = p at *
      by_cases h1 : p.1.length ≤ 30
      · by_cases h2 : p.2.length ≤ 30
        · simp (maxSteps := 3000000) (disch := first | exact trivial | assumption | omega | exact RegOk.mk (by decide +kernel) | exact RegCl.mk (by decide +kernel) | exact RegNo.mk (by kernel_rfl)) only [go_sem, seval, txD, hp]
          refine ⟨i + 1, ⟨hil', fun j hj => ?_⟩, by show l.length - (i + 1) < l.length - i; omega, ?_, ?_⟩
          · by_cases hji : j = i
            · subst hji; rw [hpp]; exact ⟨h1, h2⟩
            · exact hall j (by omega)
          · simp (maxSteps := 3000000) (disch := first | exact trivial | assumption | omega | exact RegOk.mk (by decide +kernel) | exact RegCl.mk (by decide +kernel) | exact RegNo.mk (by kernel_rfl)) only [go_sem, seval, txD]
            exact LeV_int (by omega)
          · simp (maxSteps := 3000000) (disch := first | exact trivial | assumption | omega | exact RegOk.mk (by decide +kernel) | exact RegCl.mk (by decide +kernel) | exact RegNo.mk (by kernel_rfl)) only [go_sem, seval]
        · have ha : (l.all fun p => decide (p.1.length ≤ 30) && decide (p.2.length ≤ 30)) = false := by
            rw [Bool.eq_false_iff]
            intro h
            have := List.all_eq_true.1 h p hmem
            rw [decide_eq_false h2] at this
            simp at this
          rw [ha]
          simp (maxSteps := 3000000) (disch := first | exact trivial | assumption | omega | exact RegOk.mk (by decide +kernel) | exact RegCl.mk (by decide +kernel) | exact RegNo.mk (by kernel_rfl)) only [go_sem, seval, txD, hp]
      · have ha : (l.all fun p => decide (p.1.length ≤ 30) && decide (p.2.length ≤ 30)) = false := by
          rw [Bool.eq_false_iff]
          intro h
          have := List.all_eq_true.1 h p hmem
          rw [decide_eq_false h1] at this
          simp at this
        rw [ha]
        simp (maxSteps := 3000000) (disch := first | exact trivial | assumption | omega | exact RegOk.mk (by decide +kernel) | exact RegCl.mk (by decide +kernel) | exact RegNo.mk (by kernel_rfl)) only [go_sem, seval, txD, hp]
  · have e : pairsB l m = false := by unfold pairsB; rw [decide_eq_false hlen]; rfl
    rw [e]
    simp (maxSteps := 3000000) (disch := first | exact trivial | assumption | omega | exact RegOk.mk (by decide +kernel) | exact RegCl.mk (by decide +kernel) | exact RegNo.mk (by kernel_rfl)) only [go_sem, seval, txD]
/-- A number brought into what is let. -/
def wiK (n : Int) (m : Nat) : Int := if n.tmod ((m : Int) + 1) < 0 then n.tmod ((m : Int) + 1) + ((m : Int) + 1) else n.tmod ((m : Int) + 1)
theorem wiK_in (n : Int) (m : Nat) : 0 ≤ wiK n m ∧ wiK n m ≤ m := by
  have h1 := Int.tmod_lt_of_pos n (show (0 : Int) < (m : Int) + 1 by omega)
  have h2 := Int.lt_tmod_of_pos n (show (0 : Int) < (m : Int) + 1 by omega)
  unfold wiK
  split <;> omega
theorem book_Within (n : Int) {m : Nat} (hm : m < 1073741824) : C E 27 [.int .i64 n, .int .i64 0, .int .i64 m] (.int .i64 (wiK n m)) := by
  refine CG_intro Tryz.func27 rfl (by kernel_rfl) rfl (by kernel_rfl) (by kernel_rfl) rfl ?_
  have h1 := Int.tmod_lt_of_pos n (show (0 : Int) < (m : Int) + 1 by omega)
  have h2 := Int.lt_tmod_of_pos n (show (0 : Int) < (m : Int) + 1 by omega)
  have e0 : (m : Int) - 0 = m := Int.sub_zero _
  have ne : ((m : Int) + 1 = 0) = False := eq_false (by omega)
  unfold wiK
  by_cases h : n.tmod ((m : Int) + 1) < 0
  · rw [if_pos h]
    generalize ht : n.tmod ((m : Int) + 1) = t at *
    simp (maxSteps := 3000000) (disch := first | exact trivial | assumption | omega | exact RegOk.mk (by decide +kernel) | exact RegCl.mk (by decide +kernel) | exact RegNo.mk (by kernel_rfl)) only [go_sem, seval, e0, ne, ht]
    try exact LeV_int (by omega)
  · rw [if_neg h]
    generalize ht : n.tmod ((m : Int) + 1) = t at *
    simp (maxSteps := 3000000) (disch := first | exact trivial | assumption | omega | exact RegOk.mk (by decide +kernel) | exact RegCl.mk (by decide +kernel) | exact RegNo.mk (by kernel_rfl)) only [go_sem, seval, e0, ne, ht]
    try exact LeV_int (by omega)
def okBx (l : List (Txt × Txt)) : Prop := pairsB l 4 = true ∧ (boxR l).2 = 0
theorem pairsB_len {l : List (Txt × Txt)} {m : Nat} (h : pairsB l m = true) : l.length ≤ m ∧ ∀ p ∈ l, p.1.length ≤ 30 ∧ p.2.length ≤ 30 := by
  unfold pairsB at h
  rw [Bool.and_eq_true] at h
  refine ⟨of_decide_eq_true h.1, fun p hp => ?_⟩
  have := List.all_eq_true.1 h.2 p hp
  rw [Bool.and_eq_true] at this
  exact ⟨of_decide_eq_true this.1, of_decide_eq_true this.2⟩
theorem law6_Of_yes {l : List (Txt × Txt)} (h : okBx l) : C E 12 [txD l] (.tup [bxD (boxR l).1, rbD (boxR l).1, .bool true]) := by
  refine CG_intro Tryz.func12 rfl (by kernel_rfl) rfl (by kernel_rfl) (by kernel_rfl) rfl ?_
  obtain ⟨hp, hb⟩ := h
  obtain ⟨hl, hs⟩ := pairsB_len hp
  have hP := book_Pairs l (m := 4) (by omega)
  rw [hp] at hP
  have hs' : ∀ p ∈ l, p.1.length < 1099511627776 ∧ p.2.length < 1099511627776 := fun p h => by have := hs p h; omega
  have h1 := ref_BoxParse (l := l) (by omega) hs'
  have h2 := box_Parse (l := l) (by omega) hs'
  generalize boxR l = r at *
  obtain ⟨b, e⟩ := r
  simp only at hb
  subst hb
  have e1 : rboxD (b, 0) = .tup [rbD b, .int .i64 0] := rfl
  have e2 : boxD (b, 0) = .tup [bxD b, .int .i64 0] := rfl
  rw [e1] at h1
  rw [e2] at h2
  simp (maxSteps := 3000000) (disch := first | exact trivial | assumption | omega | exact RegOk.mk (by decide +kernel) | exact RegCl.mk (by decide +kernel) | exact RegNo.mk (by kernel_rfl)) only [go_sem, seval]
  refine callC hP ?_ rfl ?_
  · simp (maxSteps := 3000000) (disch := first | exact trivial | assumption | omega | exact RegOk.mk (by decide +kernel) | exact RegCl.mk (by decide +kernel) | exact RegNo.mk (by kernel_rfl)) only [go_sem, seval]
    try exact LesV.refl _
  simp (maxSteps := 3000000) (disch := first | exact trivial | assumption | omega | exact RegOk.mk (by decide +kernel) | exact RegCl.mk (by decide +kernel) | exact RegNo.mk (by kernel_rfl)) only [go_sem, seval]
  refine callC h1 ?_ rfl ?_
  · simp (maxSteps := 3000000) (disch := first | exact trivial | assumption | omega | exact RegOk.mk (by decide +kernel) | exact RegCl.mk (by decide +kernel) | exact RegNo.mk (by kernel_rfl)) only [go_sem, seval]
    try exact LesV.refl _
  simp (maxSteps := 3000000) (disch := first | exact trivial | assumption | omega | exact RegOk.mk (by decide +kernel) | exact RegCl.mk (by decide +kernel) | exact RegNo.mk (by kernel_rfl)) only [go_sem, seval]
  refine callC h2 ?_ rfl ?_
  · simp (maxSteps := 3000000) (disch := first | exact trivial | assumption | omega | exact RegOk.mk (by decide +kernel) | exact RegCl.mk (by decide +kernel) | exact RegNo.mk (by kernel_rfl)) only [go_sem, seval]
    try exact LesV.refl _
  simp (maxSteps := 3000000) (disch := first | exact trivial | assumption | omega | exact RegOk.mk (by decide +kernel) | exact RegCl.mk (by decide +kernel) | exact RegNo.mk (by kernel_rfl)) only [go_sem, seval, bxD, rbD]
  try exact LeV.refl _
theorem law6_Of_no {l : List (Txt × Txt)} (h : ¬ okBx l) : C E 12 [txD l] (.tup [.nils, .nils, .bool false]) := by
  refine CG_intro Tryz.func12 rfl (by kernel_rfl) rfl (by kernel_rfl) (by kernel_rfl) rfl ?_
  have hP := book_Pairs l (m := 4) (by omega)
  simp (maxSteps := 3000000) (disch := first | exact trivial | assumption | omega | exact RegOk.mk (by decide +kernel) | exact RegCl.mk (by decide +kernel) | exact RegNo.mk (by kernel_rfl)) only [go_sem, seval]
  refine callC hP ?_ rfl ?_
  · simp (maxSteps := 3000000) (disch := first | exact trivial | assumption | omega | exact RegOk.mk (by decide +kernel) | exact RegCl.mk (by decide +kernel) | exact RegNo.mk (by kernel_rfl)) only [go_sem, seval]
    try exact LesV.refl _
  by_cases hp : pairsB l 4 = true
  · obtain ⟨hl, hs⟩ := pairsB_len hp
    have hs' : ∀ p ∈ l, p.1.length < 1099511627776 ∧ p.2.length < 1099511627776 := fun p h => by have := hs p h; omega
    have h1 := ref_BoxParse (l := l) (by omega) hs'
    have hne : (boxR l).2 ≠ 0 := fun e => h ⟨hp, e⟩
    rw [hp]
    generalize boxR l = r at *
    obtain ⟨b, e⟩ := r
    simp only at hne
    have e1 : rboxD (b, e) = .tup [.nils, .int .i64 e] := by unfold rboxD; rw [if_neg hne]
    rw [e1] at h1
    have hne1 : (e == 0) = false := beq_eq_false_iff_ne.2 hne
    have hne2 : (e != 0) = true := by rw [bne, hne1]; rfl
    simp (maxSteps := 3000000) (disch := first | exact trivial | assumption | omega | exact RegOk.mk (by decide +kernel) | exact RegCl.mk (by decide +kernel) | exact RegNo.mk (by kernel_rfl)) only [go_sem, seval]
    refine callC h1 ?_ rfl ?_
    · simp (maxSteps := 3000000) (disch := first | exact trivial | assumption | omega | exact RegOk.mk (by decide +kernel) | exact RegCl.mk (by decide +kernel) | exact RegNo.mk (by kernel_rfl)) only [go_sem, seval]
      try exact LesV.refl _
    simp (maxSteps := 3000000) (disch := first | exact trivial | assumption | omega | exact RegOk.mk (by decide +kernel) | exact RegCl.mk (by decide +kernel) | exact RegNo.mk (by kernel_rfl)) only [go_sem, seval, hne1, hne2]
    try exact LeV.refl _
  · have hp' : pairsB l 4 = false := by simpa using hp
    rw [hp']
    simp (maxSteps := 3000000) (disch := first | exact trivial | assumption | omega | exact RegOk.mk (by decide +kernel) | exact RegCl.mk (by decide +kernel) | exact RegNo.mk (by kernel_rfl)) only [go_sem, seval]
    try exact LeV.refl _
end Go.Proofs.YtmcinfbckdiaoaaGreatDoor.Lv
