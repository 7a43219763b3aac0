/- The program's numbers: Parse. -/
import Derived.Test.YtmcinfbckdiaoaaGreatDoorPH
set_option linter.unusedVariables false
set_option linter.unusedSimpArgs false
set_option maxRecDepth 100000
set_option maxHeartbeats 4000000
namespace Go.Proofs.YtmcinfbckdiaoaaGreatDoor.Lv
open Go Go.RowKit

/-- Is it a number's digits? -/
def okNat (s : List UInt8) : Bool := !(s == []) && decide (s.length ≤ 4000) && !((s.getD 0 0).toNat == 48 && decide (1 < s.length)) && s.all isDig
theorem dval_take (s : List UInt8) (i : Nat) (h : i < s.length) : dval (s.take (i + 1)) = dval (s.take i) * 10 + ((s.getD i 0).toNat - 48) := by
  rw [List.take_add_one, List.getD_eq_getElem?_getD, List.getElem?_eq_getElem h]
  exact dval_snoc _ _
theorem dval_nb (s : List UInt8) (h : ∀ c ∈ s, isDig c = true) : nb (dval s) ≤ s.length := by
  refine nb_lt.2 (Nat.lt_of_lt_of_le (dval_lt s h) (Nat.pow_le_pow_left (by omega) _))
def npD (s : List UInt8) : D := .tup [natD (if okNat s = true then dval s else 0), .int .i64 (if okNat s = true then 0 else 2)]
theorem npD_no {s : List UInt8} (h : okNat s = false) : npD s = .tup [natD 0, .int .i64 2] := by rw [npD, h]; rfl
theorem npD_yes {s : List UInt8} (h : okNat s = true) : npD s = .tup [natD (dval s), .int .i64 0] := by rw [npD, h]; rfl
theorem LeV_nil0 : LeV (.tup [.agg [.nils], .int .i64 2]) (.tup [natD 0, .int .i64 2]) := by
  refine LeV.tup (LesV.cons (LeV.agg (LesV.cons ?_ LesV.nil)) (LesV.refl _))
  rw [u32s, limbs_zero]
  exact LeV.nils
theorem nat_Parse (s : List UInt8) : C E 127 [.str s] (npD s) := by
  refine CG_intro Tryz.func127 rfl (by kernel_rfl) rfl (by kernel_rfl) (by kernel_rfl) rfl ?_
  by_cases h0 : s = []
  · subst h0
    have e : (([] : List UInt8) == []) = true := rfl
    rw [npD_no rfl]
    simp (maxSteps := 3000000) (disch := first | exact trivial | assumption | omega | exact rOk | exact rCl | exact rNo) only [go_sem, seval, e]
    exact LeV_nil0
  have e0 : (s == []) = false := beq_eq_false_iff_ne.2 h0
  have hpos : 0 < s.length := List.length_pos_iff.2 h0
  by_cases h1 : 4000 < s.length
  · rw [npD_no (by simp only [okNat]; rw [decide_eq_false (show ¬ s.length ≤ 4000 by omega)]; simp)]
    simp (maxSteps := 3000000) (disch := first | exact trivial | assumption | omega | exact rOk | exact rCl | exact rNo) only [go_sem, seval, e0]
    exact LeV_nil0
  have hc0 := (s.getD 0 0).toNat_lt
  by_cases h2 : (s.getD 0 0).toNat = 48 ∧ 1 < s.length
  · obtain ⟨h2, h3⟩ := h2
    rw [npD_no (by simp only [okNat, h2]; rw [decide_eq_true h3]; simp)]
    simp (maxSteps := 3000000) (disch := first | exact trivial | assumption | omega | exact rOk | exact rCl | exact rNo) only [go_sem, seval, e0, h2]
    exact LeV_nil0
  have hok : okNat s = s.all isDig := by
    have : ((s.getD 0 0).toNat == 48 && decide (1 < s.length)) = false := by
      rw [Bool.and_eq_false_iff]
      by_cases h : (s.getD 0 0).toNat = 48
      · exact .inr (decide_eq_false fun h' => h2 ⟨h, h'⟩)
      · exact .inl (beq_eq_false_iff_ne.2 h)
    simp only [okNat, this, e0]
    rw [decide_eq_true (show s.length ≤ 4000 by omega)]
    rfl
  have inv : ∀ {Q : Prop}, ((s.getD 0 0).toNat = 48 → s.length = 1 → Q) → ((s.getD 0 0).toNat ≠ 48 → Q) → Q := fun {Q} q1 q2 => by
    by_cases h : (s.getD 0 0).toNat = 48
    · exact q1 h (by omega)
    · exact q2 h
  have loop : True := trivial
  refine inv (fun k1 k2 => ?_) (fun k1 => ?_)
  all_goals
    simp (maxSteps := 3000000) (disch := first | exact trivial | assumption | omega | exact rOk | exact rCl | exact rNo) only [go_sem, seval, e0, k1, Nat.reduceEqDiff]
    refine AL.ofN 4 false 1 (lR []) (fun i : Nat => i ≤ s.length ∧ ∀ c ∈ s.take i, isDig c = true) (fun i => s.length - i)
      (fun i => [(0, .str s), (2, .ad 0 0), (4, .sl 1 (nb (dval (s.take i))) 0 (nb (dval (s.take i)))), (25, .int .i64 s.length), (26, .int .i64 i)])
      (fun i => [(1, .row false (nb (dval (s.take i))) false 1 (nb (dval (s.take i))) (lR (limbs (dval (s.take i))))), (0, .var true 1 (.agg [.nils]))]) 0 (by simp (maxSteps := 3000000) (disch := first | exact trivial | assumption | omega | exact rOk | exact rCl | exact rNo) only [go_sem, seval]) ⟨by omega, fun c h => by cases h⟩ ?_ ?_ ?_ ?_
    · have z : nb (dval []) = 0 := by rw [show dval [] = 0 from rfl, nb, limbs_zero]; rfl
      simp (maxSteps := 3000000) (disch := first | exact trivial | assumption | omega | exact rOk | exact rCl | exact rNo) only [go_sem, seval, z]
    · have z : nb (dval []) = 0 := by rw [show dval [] = 0 from rfl, nb, limbs_zero]; rfl
      simp (maxSteps := 3000000) (disch := first | exact trivial | assumption | omega | exact rOk | exact rCl | exact rNo) only [go_sem, seval, z]
      try exact fun i hi => absurd hi (by omega)
    · intro x _; simp (maxSteps := 3000000) (disch := first | exact trivial | assumption | omega | exact rOk | exact rCl | exact rNo) only [go_sem, seval]
    rintro i ⟨hi, hd⟩
    by_cases hil : i = s.length
    · subst hil
      rw [List.take_length] at hd
      rw [npD_yes (by rw [hok, List.all_eq_true]; exact hd)]
      simp (maxSteps := 3000000) (disch := first | exact trivial | assumption | omega | exact rOk | exact rCl | exact rNo) only [go_sem, seval, List.take_length]
      rw [natD_u32s, u32s_lR]
      exact LeV.refl _
    have hi' : i < s.length := by omega
    have hcm : s.getD i 0 ∈ s := by rw [List.getD_eq_getElem?_getD, List.getElem?_eq_getElem hi']; exact List.getElem_mem hi'
    have hcl := (s.getD i 0).toNat_lt
    by_cases hc : isDig (s.getD i 0) = true
    · have hc' : 48 ≤ (s.getD i 0).toNat ∧ (s.getD i 0).toNat ≤ 57 := by simpa only [isDig, decide_eq_true_eq] using hc
      have hv := dval_take s i hi'
      have hnb := dval_nb (s.take i) hd
      rw [List.length_take] at hnb
      have hd1 : ∀ c ∈ s.take (i + 1), isDig c = true := fun c hcc => by
        rw [List.take_add_one, List.getElem?_eq_getElem hi'] at hcc
        rcases List.mem_append.1 hcc with h | h
        · exact hd c h
        · have e : c = s[i] := by simpa using h
          rw [List.getD_eq_getElem?_getD, List.getElem?_eq_getElem hi'] at hc
          rw [e]; exact hc
      generalize hx : (s.getD i 0).toNat = x at *
      have ex : ((x : Int) - 48) = ((x - 48 : Nat) : Int) := by omega
      simp (maxSteps := 3000000) (disch := first | exact trivial | assumption | omega | exact rOk | exact rCl | exact rNo) only [go_sem, seval, hx, ex]
      refine callG [1] (nat_grow (m := dval (s.take i)) (q := 10) (r := x - 48) (by omega) (by omega) (by omega) (by omega)) rfl (by simp (maxSteps := 3000000) (disch := first | exact trivial | assumption | omega | exact rOk | exact rCl | exact rNo) only [go_sem, seval]) ?_ ?_ ?_
      · simp (maxSteps := 3000000) (disch := first | exact trivial | assumption | omega | exact rOk | exact rCl | exact rNo) only [go_sem, seval]
        try exact LesV.refl _
      · simp (maxSteps := 3000000) (disch := first | exact trivial | assumption | omega | exact rOk | exact rCl | exact rNo) only [go_sem, seval]
      rw [← hv]
      simp (maxSteps := 3000000) (disch := first | exact trivial | assumption | omega | exact rOk | exact rCl | exact rNo) only [go_sem, seval]
      refine ⟨i + 1, ⟨by omega, hd1⟩, by show s.length - (i + 1) < s.length - i; omega, ?_, ?_⟩
      · simp (maxSteps := 3000000) (disch := first | exact trivial | assumption | omega | exact rOk | exact rCl | exact rNo) only [go_sem, seval]
        try exact LeV.of_eq (by rw [Int.natCast_succ])
      · simp (maxSteps := 3000000) (disch := first | exact trivial | assumption | omega | exact rOk | exact rCl | exact rNo) only [go_sem, seval]
        try exact fun _ _ => trivial
    · have hno : okNat s = false := by
        rw [hok]
        refine Bool.eq_false_iff.2 fun h => hc (List.all_eq_true.1 h _ hcm)
      have hc' : (s.getD i 0).toNat < 48 ∨ 57 < (s.getD i 0).toNat := by
        simp only [isDig, decide_eq_true_eq] at hc; omega
      rw [npD_no hno]
      generalize hx : (s.getD i 0).toNat = x at *
      by_cases hx2 : x < 48
      · simp (maxSteps := 3000000) (disch := first | exact trivial | assumption | omega | exact rOk | exact rCl | exact rNo) only [go_sem, seval, hx]
        exact LeV_nil0
      · simp (maxSteps := 3000000) (disch := first | exact trivial | assumption | omega | exact rOk | exact rCl | exact rNo) only [go_sem, seval, hx]
        exact LeV_nil0
end Go.Proofs.YtmcinfbckdiaoaaGreatDoor.Lv
