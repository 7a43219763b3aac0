/- The program's boxes: Parse, Split. -/
import Derived.Test.YtmcinfbckdiaoaaGreatDoorQD
set_option linter.unusedVariables false
set_option linter.unusedSimpArgs false
set_option maxRecDepth 100000
set_option maxHeartbeats 4000000
namespace Go.Proofs.YtmcinfbckdiaoaaGreatDoor.Lv
open Go Go.RowKit
abbrev Txt := List UInt8
/-- A row of pairs of texts. -/
def txR (l : List (Txt × Txt)) : Nat → D := fun i => .agg [.str (l.getD i ([], [])).1, .str (l.getD i ([], [])).2]
def txD (l : List (Txt × Txt)) : D := .ro true 2 l.length (txR l)
theorem cl_tx (l : List (Txt × Txt)) : cl (txD l) = true := Eq.trans rfl rfl
theorem flat_tx (l : List (Txt × Txt)) : flat (txD l) = false := Eq.trans rfl rfl
/-- A box' texts: its sides, or the first code that is not nought. -/
def sidesR (l : List (Txt × Txt)) : List (Rat × Rat) × Int := match l.find? fun p => decide ((sideR p.1 p.2).2 ≠ 0) with
  | some p => ([], (sideR p.1 p.2).2)
  | none => (l.map fun p => (sideR p.1 p.2).1, 0)
def boxR (l : List (Txt × Txt)) : List (Rat × Rat) × Int := if l.length < 1 ∨ 3 < l.length then ([], 1) else sidesR l
def boxD (r : List (Rat × Rat) × Int) : D := .tup [if r.2 = 0 then bxD r.1 else .nils, .int .i64 r.2]
theorem pR_snoc {w : List (Rat × Rat)} {d : Rat × Rat} {j n : Nat} (hn : w.length = n) (hj : j < n + 1) : (if j < n then pR w j else [sD d].getD (j - n) .unk) = pR (w ++ [d]) j := by
  unfold pR
  by_cases h : j < n
  · rw [if_pos h, List.getD_eq_getElem?_getD, List.getD_eq_getElem?_getD, List.getElem?_append_left (by omega)]
  · rw [if_neg h, List.getD_eq_getElem?_getD (l := w ++ [d]), List.getElem?_append_right (by omega), hn, show j - n = 0 by omega]
    rfl
/-- So many sides are read. -/
def BpP (l : List (Txt × Txt)) (s : Nat × List (Rat × Rat)) : Prop := s.1 ≤ l.length ∧ s.2 = (l.take s.1).map (fun p => (sideR p.1 p.2).1) ∧ ∀ p ∈ l.take s.1, (sideR p.1 p.2).2 = 0
theorem BpP.fin {l : List (Txt × Txt)} {w : List (Rat × Rat)} (h : BpP l (l.length, w)) : sidesR l = (w, 0) := by
  obtain ⟨_, h2, h3⟩ := h
  simp only at h2 h3
  rw [List.take_length] at h2 h3
  have : l.find? (fun p => decide ((sideR p.1 p.2).2 ≠ 0)) = none := List.find?_eq_none.2 fun p hp => by simp [h3 p hp]
  unfold sidesR
  rw [this, h2]
theorem BpP.bad {l : List (Txt × Txt)} {i : Nat} {w : List (Rat × Rat)} (h : BpP l (i, w)) (hi : i < l.length) (hb : (sideR (l.getD i ([], [])).1 (l.getD i ([], [])).2).2 ≠ 0) : sidesR l = ([], (sideR (l.getD i ([], [])).1 (l.getD i ([], [])).2).2) := by
  obtain ⟨_, h2, h3⟩ := h
  have e : l = l.take i ++ l.getD i ([], []) :: l.drop (i + 1) := by
    conv => lhs; rw [← List.take_append_drop i l, List.drop_eq_getElem_cons hi]
    rw [List.getD_eq_getElem?_getD, List.getElem?_eq_getElem hi]; rfl
  have h4 : (l.take i).find? (fun p => decide ((sideR p.1 p.2).2 ≠ 0)) = none := List.find?_eq_none.2 fun p hp => by simp [h3 p hp]
  have : l.find? (fun p => decide ((sideR p.1 p.2).2 ≠ 0)) = some (l.getD i ([], [])) := by
    conv => lhs; rw [e]
    rw [List.find?_append, h4, Option.none_or, List.find?_cons, decide_eq_true hb]
  unfold sidesR
  rw [this]
theorem BpP.next {l : List (Txt × Txt)} {i : Nat} {w : List (Rat × Rat)} (h : BpP l (i, w)) (hi : i < l.length) (hb : (sideR (l.getD i ([], [])).1 (l.getD i ([], [])).2).2 = 0) : BpP l (i + 1, w ++ [(sideR (l.getD i ([], [])).1 (l.getD i ([], [])).2).1]) := by
  obtain ⟨_, h2, h3⟩ := h
  have e : l.take (i + 1) = l.take i ++ [l.getD i ([], [])] := by
    rw [List.take_add_one, List.getD_eq_getElem?_getD, List.getElem?_eq_getElem hi]; rfl
  refine ⟨hi, ?_, fun p hp => ?_⟩
  · simp only at h2
    rw [h2, e, List.map_append]; rfl
  · simp only at hp
    rw [e] at hp
    rcases List.mem_append.1 hp with hp | hp
    · exact h3 p hp
    · rw [List.mem_singleton] at hp; rw [hp]; exact hb
theorem box_Parse {l : List (Txt × Txt)} (hl : l.length < 1073741824) (ht : ∀ p ∈ l, p.1.length < 9223372036854775808 ∧ p.2.length < 9223372036854775808) : C E 20 [txD l] (boxD (boxR l)) := by
  refine CG_intro Tryz.func20 rfl (by kernel_rfl) rfl (by kernel_rfl) (by kernel_rfl) rfl ?_
  by_cases hlen : l.length < 1 ∨ 3 < l.length
  · have e : boxR l = ([], 1) := by unfold boxR; rw [if_pos hlen]
    rw [e]
    by_cases h1 : l.length < 1
    · simp (maxSteps := 3000000) (disch := first | exact trivial | assumption | omega | exact rOk | exact rCl | exact rNo) only [go_sem, seval, txD]
      exact LeV.refl _
    · simp (maxSteps := 3000000) (disch := first | exact trivial | assumption | omega | exact rOk | exact rCl | exact rNo) only [go_sem, seval, txD]
      exact LeV.refl _
  have e : boxR l = sidesR l := by unfold boxR; rw [if_neg hlen]
  rw [e]
  simp (maxSteps := 3000000) (disch := first | exact trivial | assumption | omega | exact rOk | exact rCl | exact rNo) only [go_sem, seval, txD]
  refine AL.ofN 4 true 6 (fun _ => .unk) (BpP l) (fun s => l.length - s.1) (fun s => [(4, .sl 0 s.1 0 s.1), (17, txD l), (18, .int .i64 l.length), (19, .int .i64 s.1)]) (fun s => [(0, .row false s.1 true 6 s.1 (pR s.2))]) (0, []) (by simp (maxSteps := 3000000) (disch := first | exact trivial | assumption | omega | exact rOk | exact rCl | exact rNo) only [go_sem, seval]) ⟨Nat.zero_le _, rfl, fun p hp => by simp at hp⟩ ?_ ?_ ?_ ?_
  · simp (maxSteps := 3000000) (disch := first | exact trivial | assumption | omega | exact rOk | exact rCl | exact rNo) only [go_sem, seval, txD]
    try exact LeV.refl _
  · simp (maxSteps := 3000000) (disch := first | exact trivial | assumption | omega | exact rOk | exact rCl | exact rNo) only [go_sem, seval, txD]
    try exact fun j hj => absurd hj (by omega)
  · intro x _; simp (maxSteps := 3000000) (disch := first | exact trivial | assumption | omega | exact rOk | exact rCl | exact rNo) only [go_sem, seval]
  rintro ⟨i, w⟩ hP
  have hf := hP
  obtain ⟨hi, hw, hz⟩ := hP
  simp only at hi hw hz
  have hwl : w.length = i := by rw [hw, List.length_map, List.length_take]; omega
  by_cases hil : i = l.length
  · subst hil
    rw [hf.fin]
    clear hf hw hz
    simp (maxSteps := 3000000) (disch := first | exact trivial | assumption | omega | exact rOk | exact rCl | exact rNo) only [go_sem, seval, txD]
    refine LeV.tup (LesV.cons ?_ (LesV.refl _))
    exact LeV.ro hwl.symm fun j hj => Le.refl _
  · have hil' : i < l.length := by omega
    have hmem : l.getD i ([], []) ∈ l := by
      rw [List.getD_eq_getElem?_getD, List.getElem?_eq_getElem hil']; exact List.getElem_mem hil'
    obtain ⟨t1, t2⟩ := ht _ hmem
    have hp : txR l i = .agg [.str (l.getD i ([], [])).1, .str (l.getD i ([], [])).2] := rfl
    have hbad := hf.bad hil'
    have hnext := hf.next hil'
    generalize l.getD i ([], []) = p at *
    have hS := box_side p.1 p.2 t1 t2
    simp (maxSteps := 3000000) (disch := first | exact trivial | assumption | omega | exact rOk | exact rCl | exact rNo) only [go_sem, seval, txD, hp]
    refine callC hS ?_ rfl ?_
    · simp (maxSteps := 3000000) (disch := first | exact trivial | assumption | omega | exact rOk | exact rCl | exact rNo) only [go_sem, seval]
    by_cases hb : (sideR p.1 p.2).2 = 0
    · have hnx := hnext hb
      clear hnext
      generalize sideR p.1 p.2 = r at *
      obtain ⟨r1, r2⟩ := r
      simp only at hb hnx
      subst hb
      clear hbad hz hw hS hf
      simp (maxSteps := 3000000) (disch := first | exact trivial | assumption | omega | exact rOk | exact rCl | exact rNo) only [go_sem, seval, txD]
      refine ⟨.inl trivial, .inr trivial, by omega, by omega, ?_⟩
      refine ⟨_, hnx, by show l.length - (i + 1) < l.length - i; omega, ?_, ?_⟩
      · simp (maxSteps := 3000000) (disch := first | exact trivial | assumption | omega | exact rOk | exact rCl | exact rNo) only [go_sem, seval, txD]
        try exact LeV_int (by omega)
      · simp (maxSteps := 3000000) (disch := first | exact trivial | assumption | omega | exact rOk | exact rCl | exact rNo) only [go_sem, seval]
        exact fun j hj => Le.of_eq (pR_snoc hwl hj)
    · rw [hbad hb]
      have hne : ((sideR p.1 p.2).2 == 0) = false := beq_eq_false_iff_ne.2 hb
      have hne2 : boxD ([], (sideR p.1 p.2).2) = .tup [.nils, .int .i64 (sideR p.1 p.2).2] := by unfold boxD; rw [if_neg hb]
      rw [hne2]
      clear hbad hnext hz hw hS hf
      simp (maxSteps := 3000000) (disch := first | exact trivial | assumption | omega | exact rOk | exact rCl | exact rNo) only [go_sem, seval, txD, hne]
      try exact LeV.refl _
theorem set_lo {l : List (Rat × Rat)} {i j : Nat} {m : Rat} (hi : i < l.length) (hj : j < l.length) : (if j = i then sD ((l.getD i (0, 0)).1, m) else pR l j) = pR (l.set i ((l.getD i (0, 0)).1, m)) j := by
  unfold pR
  by_cases h : j = i
  · subst h
    rw [if_pos rfl, List.getD_eq_getElem?_getD (l := l.set j _), List.getElem?_set_self hi]; rfl
  · rw [if_neg h, List.getD_eq_getElem?_getD, List.getD_eq_getElem?_getD, List.getElem?_set_ne (fun e => h e.symm)]
theorem set_hi {l : List (Rat × Rat)} {i j : Nat} {m : Rat} (hi : i < l.length) (hj : j < l.length) : (if j = i then sD (m, (l.getD i (0, 0)).2) else pR l j) = pR (l.set i (m, (l.getD i (0, 0)).2)) j := by
  unfold pR
  by_cases h : j = i
  · subst h
    rw [if_pos rfl, List.getD_eq_getElem?_getD (l := l.set j _), List.getElem?_set_self hi]; rfl
  · rw [if_neg h, List.getD_eq_getElem?_getD, List.getD_eq_getElem?_getD, List.getElem?_set_ne (fun e => h e.symm)]
/-- A side's halves. -/
def splitL (l : List (Rat × Rat)) (i : Nat) : List (Rat × Rat) := l.set i ((l.getD i (0, 0)).1, midQ (l.getD i (0, 0)))
def splitH (l : List (Rat × Rat)) (i : Nat) : List (Rat × Rat) := l.set i (midQ (l.getD i (0, 0)), (l.getD i (0, 0)).2)
theorem box_Split_no {l : List (Rat × Rat)} (hq : ∀ p ∈ l, qs p.1 ∧ qs p.2) (hl : l.length < 1073741824) {i : Int} (h : ¬ (rightB l = true ∧ 0 ≤ i ∧ i < l.length)) : C E 15 [bxD l, .int .i64 i] (.tup [.nils, .nils, .bool false]) := by
  refine CG_intro Tryz.func15 rfl (by kernel_rfl) rfl (by kernel_rfl) (by kernel_rfl) rfl ?_
  have hR := box_Right hq hl
  simp (maxSteps := 3000000) (disch := first | exact trivial | assumption | omega | exact rOk | exact rCl | exact rNo) only [go_sem, seval]
  refine callC hR ?_ rfl ?_
  · simp (maxSteps := 3000000) (disch := first | exact trivial | assumption | omega | exact rOk | exact rCl | exact rNo) only [go_sem, seval]
  by_cases hr : rightB l = true
  · rw [hr]
    by_cases h1 : 0 ≤ i
    · have h2 : ¬ i < l.length := fun h2 => h ⟨hr, h1, h2⟩
      simp (maxSteps := 3000000) (disch := first | exact trivial | assumption | omega | exact rOk | exact rCl | exact rNo) only [go_sem, seval, bxD]
    · simp (maxSteps := 3000000) (disch := first | exact trivial | assumption | omega | exact rOk | exact rCl | exact rNo) only [go_sem, seval, bxD]
  · have hr' : rightB l = false := by simpa using hr
    rw [hr']
    simp (maxSteps := 3000000) (disch := first | exact trivial | assumption | omega | exact rOk | exact rCl | exact rNo) only [go_sem, seval, bxD]
theorem box_Split {l : List (Rat × Rat)} (hq : ∀ p ∈ l, qb 40000000 p.1 ∧ qb 40000000 p.2) (hl : l.length < 1073741824) {i : Nat} (hr : rightB l = true) (hi' : i < l.length) : C E 15 [bxD l, .int .i64 (i : Int)] (.tup [bxD (splitL l i), bxD (splitH l i), .bool true]) := by
  refine CG_intro Tryz.func15 rfl (by kernel_rfl) rfl (by kernel_rfl) (by kernel_rfl) rfl ?_
  have hR := box_Right (fun p hp => ⟨(hq p hp).1.qs (by omega), (hq p hp).2.qs (by omega)⟩) hl
  have hne : l ≠ [] := fun e => by subst e; simp at hi'
  have i0 : ((i : Nat) : Int).toNat = i := by omega
  have hmem : l.getD i (0, 0) ∈ l := by
    rw [List.getD_eq_getElem?_getD, List.getElem?_eq_getElem hi']; exact List.getElem_mem hi'
  obtain ⟨s1, s2⟩ := hq _ hmem
  have hM := span_Mid s1 s2
  unfold splitL splitH
  simp (maxSteps := 3000000) (disch := first | exact trivial | assumption | omega | exact rOk | exact rCl | exact rNo) only [go_sem, seval]
  refine callC hR ?_ rfl ?_
  · simp (maxSteps := 3000000) (disch := first | exact trivial | assumption | omega | exact rOk | exact rCl | exact rNo) only [go_sem, seval]
  rw [hr]
  simp (maxSteps := 3000000) (disch := first | exact trivial | assumption | omega | exact rOk | exact rCl | exact rNo) only [go_sem, seval, bxD]
  refine callN (clone_sp hne hl) ?_ ?_
  · simp (maxSteps := 3000000) (disch := first | exact trivial | assumption | omega | exact rOk | exact rCl | exact rNo) only [go_sem, seval, bxD]
  simp (maxSteps := 3000000) (disch := first | exact trivial | assumption | omega | exact rOk | exact rCl | exact rNo) only [go_sem, seval, bxD]
  refine callN (clone_sp hne hl) ?_ ?_
  · simp (maxSteps := 3000000) (disch := first | exact trivial | assumption | omega | exact rOk | exact rCl | exact rNo) only [go_sem, seval, bxD]
  have hp : pR l i = sD (l.getD i (0, 0)) := rfl
  simp (maxSteps := 3000000) (disch := first | exact trivial | assumption | omega | exact rOk | exact rCl | exact rNo) only [go_sem, seval, bxD, i0, hp]
  refine callC hM ?_ rfl ?_
  · simp (maxSteps := 3000000) (disch := first | exact trivial | assumption | omega | exact rOk | exact rCl | exact rNo) only [go_sem, seval]
  simp (maxSteps := 3000000) (disch := first | exact trivial | assumption | omega | exact rOk | exact rCl | exact rNo) only [go_sem, seval, bxD, i0, hp]
  refine AReg_anyL 12 [0, 1, 2, 3, 4, 5, 6, 7, 8, 9, 10, 11] rfl rfl (by decide +kernel) ?_
  refine AAny_free 0 [1, 2, 3, 4, 5, 6, 7, 8, 9, 10, 11] (by decide +kernel) rfl ?_
  refine AI_at _ rfl ?_
  simp (maxSteps := 3000000) (disch := first | exact trivial | assumption | omega | exact rOk | exact rCl | exact rNo) only [go_sem, seval, bxD, i0, hp]
  refine AAny_free 1 [2, 3, 4, 5, 6, 7, 8, 9, 10, 11] (by decide +kernel) rfl ?_
  refine AI_at _ rfl ?_
  simp (maxSteps := 3000000) (disch := first | exact trivial | assumption | omega | exact rOk | exact rCl | exact rNo) only [go_sem, seval, bxD, i0, hp]
  refine AAny_free 2 [3, 4, 5, 6, 7, 8, 9, 10, 11] (by decide +kernel) rfl ?_
  refine AI_at _ rfl ?_
  simp (maxSteps := 3000000) (disch := first | exact trivial | assumption | omega | exact rOk | exact rCl | exact rNo) only [go_sem, seval, bxD, i0, hp]
  refine AAny_free 3 [4, 5, 6, 7, 8, 9, 10, 11] (by decide +kernel) rfl ?_
  refine AI_at _ rfl ?_
  simp (maxSteps := 3000000) (disch := first | exact trivial | assumption | omega | exact rOk | exact rCl | exact rNo) only [go_sem, seval, bxD, i0, hp]
  refine AAny_free 4 [5, 6, 7, 8, 9, 10, 11] (by decide +kernel) rfl ?_
  refine AI_at _ rfl ?_
  simp (maxSteps := 3000000) (disch := first | exact trivial | assumption | omega | exact rOk | exact rCl | exact rNo) only [go_sem, seval, bxD, i0, hp]
  refine AAny_free 6 [5, 7, 8, 9, 10, 11] (by decide +kernel) rfl ?_
  refine AI_at _ rfl ?_
  simp (maxSteps := 3000000) (disch := first | exact trivial | assumption | omega | exact rOk | exact rCl | exact rNo) only [go_sem, seval, bxD, i0, hp]
  refine AAny_free 7 [5, 8, 9, 10, 11] (by decide +kernel) rfl ?_
  refine AI_at _ rfl ?_
  simp (maxSteps := 3000000) (disch := first | exact trivial | assumption | omega | exact rOk | exact rCl | exact rNo) only [go_sem, seval, bxD, i0, hp]
  refine AAny_step [(5, [8, 9, 10, 11]), (8, [5, 9, 10, 11])] (by decide +kernel) rfl ?_
  refine forall_more ?_ ?_
  · refine AI_at _ rfl ?_
    simp (maxSteps := 3000000) (disch := first | exact trivial | assumption | omega | exact rOk | exact rCl | exact rNo) only [go_sem, seval, bxD, i0, hp]
    refine AAny_free 8 [9, 10, 11] (by decide +kernel) rfl ?_
    refine AI_at _ rfl ?_
    simp (maxSteps := 3000000) (disch := first | exact trivial | assumption | omega | exact rOk | exact rCl | exact rNo) only [go_sem, seval, bxD, i0, hp]
    refine AAny_free 9 [10, 11] (by decide +kernel) rfl ?_
    refine AI_at _ rfl ?_
    simp (maxSteps := 3000000) (disch := first | exact trivial | assumption | omega | exact rOk | exact rCl | exact rNo) only [go_sem, seval, bxD, i0, hp]
    refine AAny_free 10 [11] (by decide +kernel) rfl ?_
    refine AI_at _ rfl ?_
    simp (maxSteps := 3000000) (disch := first | exact trivial | assumption | omega | exact rOk | exact rCl | exact rNo) only [go_sem, seval, bxD, i0, hp]
    refine AAny_free 11 [] (by decide +kernel) rfl ?_
    refine AI_at _ rfl ?_
    simp (maxSteps := 3000000) (disch := first | exact trivial | assumption | omega | exact rOk | exact rCl | exact rNo) only [go_sem, seval, bxD, i0, hp]
    refine AAny_end ?_
    simp (maxSteps := 3000000) (disch := first | exact trivial | assumption | omega | exact rOk | exact rCl | exact rNo) only [go_sem, seval, bxD, i0, hp]
    refine LeV.tup (LesV.cons (LeV.ro (by simp) fun j hj => ?_) (LesV.cons (LeV.ro (by simp) fun j hj => ?_) (LesV.refl _)))
    · exact Le.of_eq (Eq.trans rfl (set_lo (m := midQ (l.getD i (0, 0))) hi' hj))
    · exact Le.of_eq (Eq.trans rfl (set_hi (m := midQ (l.getD i (0, 0))) hi' hj))
  refine forall_one ?_
  refine AI_at _ rfl ?_
  simp (maxSteps := 3000000) (disch := first | exact trivial | assumption | omega | exact rOk | exact rCl | exact rNo) only [go_sem, seval, bxD, i0, hp]
  refine AAny_free 5 [9, 10, 11] (by decide +kernel) rfl ?_
  refine AI_at _ rfl ?_
  simp (maxSteps := 3000000) (disch := first | exact trivial | assumption | omega | exact rOk | exact rCl | exact rNo) only [go_sem, seval, bxD, i0, hp]
  refine AAny_free 9 [10, 11] (by decide +kernel) rfl ?_
  refine AI_at _ rfl ?_
  simp (maxSteps := 3000000) (disch := first | exact trivial | assumption | omega | exact rOk | exact rCl | exact rNo) only [go_sem, seval, bxD, i0, hp]
  refine AAny_free 10 [11] (by decide +kernel) rfl ?_
  refine AI_at _ rfl ?_
  simp (maxSteps := 3000000) (disch := first | exact trivial | assumption | omega | exact rOk | exact rCl | exact rNo) only [go_sem, seval, bxD, i0, hp]
  refine AAny_free 11 [] (by decide +kernel) rfl ?_
  refine AI_at _ rfl ?_
  simp (maxSteps := 3000000) (disch := first | exact trivial | assumption | omega | exact rOk | exact rCl | exact rNo) only [go_sem, seval, bxD, i0, hp]
  refine AAny_end ?_
  simp (maxSteps := 3000000) (disch := first | exact trivial | assumption | omega | exact rOk | exact rCl | exact rNo) only [go_sem, seval, bxD, i0, hp]
  refine LeV.tup (LesV.cons (LeV.ro (by simp) fun j hj => ?_) (LesV.cons (LeV.ro (by simp) fun j hj => ?_) (LesV.refl _)))
  · exact Le.of_eq (Eq.trans rfl (set_lo (m := midQ (l.getD i (0, 0))) hi' hj))
  · exact Le.of_eq (Eq.trans rfl (set_hi (m := midQ (l.getD i (0, 0))) hi' hj))
end Go.Proofs.YtmcinfbckdiaoaaGreatDoor.Lv
