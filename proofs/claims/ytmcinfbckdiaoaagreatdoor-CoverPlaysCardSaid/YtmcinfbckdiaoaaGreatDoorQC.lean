/- The program's intervals: New, Parse, half, Mid. -/
import Derived.Test.YtmcinfbckdiaoaaGreatDoorQB
import Derived.Test.YtmcinfbckdiaoaaGreatDoorEa
set_option linter.unusedVariables false
set_option linter.unusedSimpArgs false
set_option maxRecDepth 100000
set_option maxHeartbeats 4000000
namespace Go.Proofs.YtmcinfbckdiaoaaGreatDoor.Lv
open Go Go.RowKit
/-- An interval. -/
def sD (p : Rat × Rat) : D := .agg [u32s (limbs p.1.num.natAbs), .bool (decide (p.1.num < 0)), u32s (limbs (qden p.1)), u32s (limbs p.2.num.natAbs), .bool (decide (p.2.num < 0)), u32s (limbs (qden p.2))]
section
variable (p : Rat × Rat) (h : Hp) (ρ : Nat → Option Nat)
theorem cl_sD : cl (sD p) = true := Eq.trans rfl rfl
theorem flat_sD : flat (sD p) = false := Eq.trans rfl rfl
theorem imp_sD : imp ρ h (sD p) = sD p := Eq.trans rfl rfl
theorem refs_sD : refs ρ (sD p) = [] := Eq.trans rfl rfl
theorem asAgg_sD : asAgg (sD p) = some [u32s (limbs p.1.num.natAbs), .bool (decide (p.1.num < 0)), u32s (limbs (qden p.1)), u32s (limbs p.2.num.natAbs), .bool (decide (p.2.num < 0)), u32s (limbs (qden p.2))] := Eq.trans rfl rfl
theorem one_sD : one h (sD p) = false := Eq.trans rfl rfl
end
attribute [go_sem] cl_sD flat_sD imp_sD refs_sD asAgg_sD one_sD
theorem LeV_s0 : LeV (.agg [.nils, .bool false, .nils, .nils, .bool false, .nils]) (sD (0, 0)) := by
  have e : qden 0 = 0 := rfl
  have e2 : (0 : Rat).num = 0 := rfl
  rw [sD, e, e2, Int.natAbs_zero, limbs_zero]
  exact LeV.agg (LesV.cons LeV.nils (LesV.cons (LeV.refl _) (LesV.cons LeV.nils (LesV.cons LeV.nils (LesV.cons (LeV.refl _) (LesV.cons LeV.nils LesV.nil))))))
theorem two_ne : ((2 : Int) : Rat) ≠ 0 := by decide
theorem qs_two : qs ((2 : Int) : Rat) := by
  have h1 : nb 2 ≤ 1 := nb_lt.2 (by omega)
  have h2 : nb 1 ≤ 1 := nb_lt.2 (by omega)
  exact ⟨by show nb 2 < _; omega, by show nb 1 < _; omega⟩
theorem span_half {a : Rat} (ha : qs a) : C E 85 [qD a] (qD (a / ((2 : Int) : Rat))) := by
  refine CG_intro Tryz.func85 rfl (by kernel_rfl) rfl (by kernel_rfl) (by kernel_rfl) rfl ?_
  have hD := rat_Div ha qs_two two_ne
  simp (maxSteps := 3000000) (disch := first | exact trivial | assumption | omega | exact rOk | exact rCl | exact rNo) only [go_sem, seval]
  refine AReg_anyL 9 [0, 1, 2, 3, 4, 5, 6, 7, 8] rfl rfl (by decide +kernel) ?_
  refine AAny_free 0 [1, 2, 3, 4, 5, 6, 7, 8] (by decide +kernel) rfl ?_
  refine AI_at _ rfl ?_
  simp (maxSteps := 3000000) (disch := first | exact trivial | assumption | omega | exact rOk | exact rCl | exact rNo) only [go_sem, seval]
  refine AAny_step [(1, [2, 3, 4, 5, 6, 7, 8]), (6, [1, 2, 3, 4, 5, 7, 8])] (by decide +kernel) rfl ?_
  refine forall_more ?_ ?_
  · refine AI_at _ rfl ?_
    simp (maxSteps := 3000000) (disch := first | exact trivial | assumption | omega | exact rOk | exact rCl | exact rNo) only [go_sem, seval]
    refine callCl (rat_Of (v := 2) (by omega) (by omega)) ?_ rfl ?_
    · simp (maxSteps := 3000000) (disch := first | exact trivial | assumption | omega | exact rOk | exact rCl | exact rNo) only [go_sem, seval]
    simp (maxSteps := 3000000) (disch := first | exact trivial | assumption | omega | exact rOk | exact rCl | exact rNo) only [go_sem, seval]
    refine AAny_step [(2, [3, 4, 5, 6, 7, 8]), (6, [2, 3, 4, 5, 7, 8])] (by decide +kernel) rfl ?_
    refine forall_more ?_ ?_
    · refine AI_at _ rfl ?_
      simp (maxSteps := 3000000) (disch := first | exact trivial | assumption | omega | exact rOk | exact rCl | exact rNo) only [go_sem, seval]
      refine callCl hD ?_ rfl ?_
      · simp (maxSteps := 3000000) (disch := first | exact trivial | assumption | omega | exact rOk | exact rCl | exact rNo) only [go_sem, seval]
      simp (maxSteps := 3000000) (disch := first | exact trivial | assumption | omega | exact rOk | exact rCl | exact rNo) only [go_sem, seval]
      refine AAny_free 3 [4, 5, 6, 7, 8] (by decide +kernel) rfl ?_
      refine AI_at _ rfl ?_
      simp (maxSteps := 3000000) (disch := first | exact trivial | assumption | omega | exact rOk | exact rCl | exact rNo) only [go_sem, seval]
      refine AAny_free 4 [5, 6, 7, 8] (by decide +kernel) rfl ?_
      refine AI_at _ rfl ?_
      simp (maxSteps := 3000000) (disch := first | exact trivial | assumption | omega | exact rOk | exact rCl | exact rNo) only [go_sem, seval]
      refine AAny_free 5 [6, 7, 8] (by decide +kernel) rfl ?_
      refine AI_at _ rfl ?_
      simp (maxSteps := 3000000) (disch := first | exact trivial | assumption | omega | exact rOk | exact rCl | exact rNo) only [go_sem, seval]
      refine AAny_free 6 [7, 8] (by decide +kernel) rfl ?_
      refine AI_at _ rfl ?_
      simp (maxSteps := 3000000) (disch := first | exact trivial | assumption | omega | exact rOk | exact rCl | exact rNo) only [go_sem, seval]
      refine AAny_free 7 [8] (by decide +kernel) rfl ?_
      refine AI_at _ rfl ?_
      simp (maxSteps := 3000000) (disch := first | exact trivial | assumption | omega | exact rOk | exact rCl | exact rNo) only [go_sem, seval]
      refine AAny_free 8 [] (by decide +kernel) rfl ?_
      refine AI_at _ rfl ?_
      simp (maxSteps := 3000000) (disch := first | exact trivial | assumption | omega | exact rOk | exact rCl | exact rNo) only [go_sem, seval]
      refine AAny_end ?_
      simp (maxSteps := 3000000) (disch := first | exact trivial | assumption | omega | exact rOk | exact rCl | exact rNo) only [go_sem, seval]
    refine forall_one ?_
    refine AI_at _ rfl ?_
    simp (maxSteps := 3000000) (disch := first | exact trivial | assumption | omega | exact rOk | exact rCl | exact rNo) only [go_sem, seval]
    refine AAny_free 2 [3, 4, 5, 7, 8] (by decide +kernel) rfl ?_
    refine AI_at _ rfl ?_
    simp (maxSteps := 3000000) (disch := first | exact trivial | assumption | omega | exact rOk | exact rCl | exact rNo) only [go_sem, seval]
    refine callCl hD ?_ rfl ?_
    · simp (maxSteps := 3000000) (disch := first | exact trivial | assumption | omega | exact rOk | exact rCl | exact rNo) only [go_sem, seval]
    simp (maxSteps := 3000000) (disch := first | exact trivial | assumption | omega | exact rOk | exact rCl | exact rNo) only [go_sem, seval]
    refine AAny_free 3 [4, 5, 7, 8] (by decide +kernel) rfl ?_
    refine AI_at _ rfl ?_
    simp (maxSteps := 3000000) (disch := first | exact trivial | assumption | omega | exact rOk | exact rCl | exact rNo) only [go_sem, seval]
    refine AAny_free 4 [5, 7, 8] (by decide +kernel) rfl ?_
    refine AI_at _ rfl ?_
    simp (maxSteps := 3000000) (disch := first | exact trivial | assumption | omega | exact rOk | exact rCl | exact rNo) only [go_sem, seval]
    refine AAny_free 5 [7, 8] (by decide +kernel) rfl ?_
    refine AI_at _ rfl ?_
    simp (maxSteps := 3000000) (disch := first | exact trivial | assumption | omega | exact rOk | exact rCl | exact rNo) only [go_sem, seval]
    refine AAny_free 7 [8] (by decide +kernel) rfl ?_
    refine AI_at _ rfl ?_
    simp (maxSteps := 3000000) (disch := first | exact trivial | assumption | omega | exact rOk | exact rCl | exact rNo) only [go_sem, seval]
    refine AAny_free 8 [] (by decide +kernel) rfl ?_
    refine AI_at _ rfl ?_
    simp (maxSteps := 3000000) (disch := first | exact trivial | assumption | omega | exact rOk | exact rCl | exact rNo) only [go_sem, seval]
    refine AAny_end ?_
    simp (maxSteps := 3000000) (disch := first | exact trivial | assumption | omega | exact rOk | exact rCl | exact rNo) only [go_sem, seval]
  refine forall_one ?_
  refine AI_at _ rfl ?_
  simp (maxSteps := 3000000) (disch := first | exact trivial | assumption | omega | exact rOk | exact rCl | exact rNo) only [go_sem, seval]
  refine AAny_free 1 [2, 3, 4, 5, 7, 8] (by decide +kernel) rfl ?_
  refine AI_at _ rfl ?_
  simp (maxSteps := 3000000) (disch := first | exact trivial | assumption | omega | exact rOk | exact rCl | exact rNo) only [go_sem, seval]
  refine callCl (rat_Of (v := 2) (by omega) (by omega)) ?_ rfl ?_
  · simp (maxSteps := 3000000) (disch := first | exact trivial | assumption | omega | exact rOk | exact rCl | exact rNo) only [go_sem, seval]
  simp (maxSteps := 3000000) (disch := first | exact trivial | assumption | omega | exact rOk | exact rCl | exact rNo) only [go_sem, seval]
  refine AAny_free 2 [3, 4, 5, 7, 8] (by decide +kernel) rfl ?_
  refine AI_at _ rfl ?_
  simp (maxSteps := 3000000) (disch := first | exact trivial | assumption | omega | exact rOk | exact rCl | exact rNo) only [go_sem, seval]
  refine callCl hD ?_ rfl ?_
  · simp (maxSteps := 3000000) (disch := first | exact trivial | assumption | omega | exact rOk | exact rCl | exact rNo) only [go_sem, seval]
  simp (maxSteps := 3000000) (disch := first | exact trivial | assumption | omega | exact rOk | exact rCl | exact rNo) only [go_sem, seval]
  refine AAny_free 3 [4, 5, 7, 8] (by decide +kernel) rfl ?_
  refine AI_at _ rfl ?_
  simp (maxSteps := 3000000) (disch := first | exact trivial | assumption | omega | exact rOk | exact rCl | exact rNo) only [go_sem, seval]
  refine AAny_free 4 [5, 7, 8] (by decide +kernel) rfl ?_
  refine AI_at _ rfl ?_
  simp (maxSteps := 3000000) (disch := first | exact trivial | assumption | omega | exact rOk | exact rCl | exact rNo) only [go_sem, seval]
  refine AAny_free 5 [7, 8] (by decide +kernel) rfl ?_
  refine AI_at _ rfl ?_
  simp (maxSteps := 3000000) (disch := first | exact trivial | assumption | omega | exact rOk | exact rCl | exact rNo) only [go_sem, seval]
  refine AAny_free 7 [8] (by decide +kernel) rfl ?_
  refine AI_at _ rfl ?_
  simp (maxSteps := 3000000) (disch := first | exact trivial | assumption | omega | exact rOk | exact rCl | exact rNo) only [go_sem, seval]
  refine AAny_free 8 [] (by decide +kernel) rfl ?_
  refine AI_at _ rfl ?_
  simp (maxSteps := 3000000) (disch := first | exact trivial | assumption | omega | exact rOk | exact rCl | exact rNo) only [go_sem, seval]
  refine AAny_end ?_
  simp (maxSteps := 3000000) (disch := first | exact trivial | assumption | omega | exact rOk | exact rCl | exact rNo) only [go_sem, seval]
def midQ (p : Rat × Rat) : Rat := (p.1 + p.2) / ((2 : Int) : Rat)
theorem span_Mid {p : Rat × Rat} (h1 : qb 40000000 p.1) (h2 : qb 40000000 p.2) : C E 53 [sD p] (qD (midQ p)) := by
  refine CG_intro Tryz.func53 rfl (by kernel_rfl) rfl (by kernel_rfl) (by kernel_rfl) rfl ?_
  have hs := (qb_add h1 h2).qs (by omega)
  simp (maxSteps := 3000000) (disch := first | exact trivial | assumption | omega | exact rOk | exact rCl | exact rNo) only [go_sem, seval]
  refine callC (rat_Add (h1.qs (by omega)) (h2.qs (by omega))) ?_ rfl ?_
  · simp (maxSteps := 3000000) (disch := first | exact trivial | assumption | omega | exact rOk | exact rCl | exact rNo) only [go_sem, seval]
    try exact LesV.refl _
  simp (maxSteps := 3000000) (disch := first | exact trivial | assumption | omega | exact rOk | exact rCl | exact rNo) only [go_sem, seval]
  refine callC (span_half hs) ?_ rfl ?_
  · simp (maxSteps := 3000000) (disch := first | exact trivial | assumption | omega | exact rOk | exact rCl | exact rNo) only [go_sem, seval]
  simp (maxSteps := 3000000) (disch := first | exact trivial | assumption | omega | exact rOk | exact rCl | exact rNo) only [go_sem, seval]
  try exact LeV.refl _
theorem sgQ_gt (a b : Rat) : decide (sgQ a b > 0) = decide (b < a) := by
  unfold sgQ
  by_cases h : a < b
  · rw [if_pos h]; exact (decide_eq_false (by grind)).symm
  · rw [if_neg h]
    by_cases h' : a = b
    · rw [if_pos h']; exact (decide_eq_false (by grind)).symm
    · rw [if_neg h']; exact (decide_eq_true (by grind)).symm
theorem sgQ_ge (a b : Rat) : decide (sgQ a b ≥ 0) = decide (b ≤ a) := by
  unfold sgQ
  by_cases h : a < b
  · rw [if_pos h]; exact (decide_eq_false (by grind)).symm
  · rw [if_neg h]
    by_cases h' : a = b
    · rw [if_pos h']; exact (decide_eq_true (by grind)).symm
    · rw [if_neg h']; exact (decide_eq_true (by grind)).symm
theorem span_New {a b : Rat} (ha : qs a) (hb : qs b) : C E 143 [qD a, qD b] (.tup [sD (if b < a then (0, 0) else (a, b)), .bool (decide (¬ b < a))]) := by
  refine CG_intro Tryz.func143 rfl (by kernel_rfl) rfl (by kernel_rfl) (by kernel_rfl) rfl ?_
  have hg := sgQ_gt a b
  simp (maxSteps := 3000000) (disch := first | exact trivial | assumption | omega | exact rOk | exact rCl | exact rNo) only [go_sem, seval]
  refine callC (rat_Cmp ha hb) ?_ rfl ?_
  · simp (maxSteps := 3000000) (disch := first | exact trivial | assumption | omega | exact rOk | exact rCl | exact rNo) only [go_sem, seval]
  by_cases h : b < a
  · rw [decide_eq_true h] at hg
    have e : decide (¬ b < a) = false := decide_eq_false (fun h' => h' h)
    rw [if_pos h, e]
    simp (maxSteps := 3000000) (disch := first | exact trivial | assumption | omega | exact rOk | exact rCl | exact rNo) only [go_sem, seval, hg]
    exact LeV.tup (LesV.cons LeV_s0 (LesV.refl _))
  · rw [decide_eq_false h] at hg
    have e : decide (¬ b < a) = true := decide_eq_true h
    rw [if_neg h, e]
    simp (maxSteps := 3000000) (disch := first | exact trivial | assumption | omega | exact rOk | exact rCl | exact rNo) only [go_sem, seval, hg]
    exact LeV.refl _
/-- An interval's texts: both ends, and the code. -/
def spR (lo hi : List UInt8) : (Rat × Rat) × Int := match rpO lo, rpO hi with
  | some a, some b => if b < a then ((0, 0), 1) else ((a, b), 0)
  | _, _ => ((0, 0), 2)
theorem rpO_qb {s : List UInt8} {q : Rat} (h : rpO s = some q) : qb 4001 q := by
  unfold rpO at h
  split at h
  · cases hz : zpO (s.take (Lib.indexByte s 47).toNat) with
    | none => rw [hz] at h; cases h
    | some n =>
      rw [hz] at h
      simp only at h
      split at h
      · rename_i hc
        obtain ⟨hl, hd⟩ := okNat_len hc.1
        have hnb := dval_nb _ hd
        have hzn := zpO_nb hz
        cases h
        obtain ⟨h1, h2⟩ := mk_num_le n (d := dval (s.drop ((Lib.indexByte s 47).toNat + 1))) (by omega)
        exact ⟨by omega, by omega⟩
      · cases h
  · rw [Option.map_eq_some_iff] at h
    obtain ⟨n, hz, rfl⟩ := h
    have hzn := zpO_nb hz
    have h1 : nb 1 ≤ 1 := nb_lt.2 (by omega)
    refine ⟨?_, ?_⟩
    · rw [Rat.num_intCast]; omega
    · rw [Rat.den_intCast]; omega
theorem span_Parse (lo hi : List UInt8) (h1 : lo.length < 9223372036854775808) (h2 : hi.length < 9223372036854775808) : C E 100 [.agg [.str lo, .str hi]] (.tup [sD (spR lo hi).1, .int .i64 (spR lo hi).2]) := by
  refine CG_intro Tryz.func100 rfl (by kernel_rfl) rfl (by kernel_rfl) (by kernel_rfl) rfl ?_
  have p1 := rat_Parse lo h1
  have p2 := rat_Parse hi h2
  cases ha : rpO lo with
  | none =>
    have e : spR lo hi = ((0, 0), 2) := by unfold spR; rw [ha]
    rw [e]
    rw [rpD_no ha] at p1
    simp (maxSteps := 3000000) (disch := first | exact trivial | assumption | omega | exact rOk | exact rCl | exact rNo) only [go_sem, seval]
    refine callC p1 ?_ rfl ?_
    · simp (maxSteps := 3000000) (disch := first | exact trivial | assumption | omega | exact rOk | exact rCl | exact rNo) only [go_sem, seval]
    simp (maxSteps := 3000000) (disch := first | exact trivial | assumption | omega | exact rOk | exact rCl | exact rNo) only [go_sem, seval]
    exact LeV.tup (LesV.cons LeV_s0 (LesV.refl _))
  | some a =>
    rw [rpD_yes ha] at p1
    cases hb : rpO hi with
    | none =>
      have e : spR lo hi = ((0, 0), 2) := by unfold spR; rw [ha, hb]
      rw [e]
      rw [rpD_no hb] at p2
      simp (maxSteps := 3000000) (disch := first | exact trivial | assumption | omega | exact rOk | exact rCl | exact rNo) only [go_sem, seval]
      refine callC p1 ?_ rfl ?_
      · simp (maxSteps := 3000000) (disch := first | exact trivial | assumption | omega | exact rOk | exact rCl | exact rNo) only [go_sem, seval]
      simp (maxSteps := 3000000) (disch := first | exact trivial | assumption | omega | exact rOk | exact rCl | exact rNo) only [go_sem, seval]
      refine callC p2 ?_ rfl ?_
      · simp (maxSteps := 3000000) (disch := first | exact trivial | assumption | omega | exact rOk | exact rCl | exact rNo) only [go_sem, seval]
      simp (maxSteps := 3000000) (disch := first | exact trivial | assumption | omega | exact rOk | exact rCl | exact rNo) only [go_sem, seval]
      exact LeV.tup (LesV.cons LeV_s0 (LesV.refl _))
    | some b =>
      have e : spR lo hi = if b < a then ((0, 0), 1) else ((a, b), 0) := by unfold spR; rw [ha, hb]
      rw [e]
      rw [rpD_yes hb] at p2
      have hN := span_New ((rpO_qb ha).qs (by omega)) ((rpO_qb hb).qs (by omega))
      simp (maxSteps := 3000000) (disch := first | exact trivial | assumption | omega | exact rOk | exact rCl | exact rNo) only [go_sem, seval]
      refine callC p1 ?_ rfl ?_
      · simp (maxSteps := 3000000) (disch := first | exact trivial | assumption | omega | exact rOk | exact rCl | exact rNo) only [go_sem, seval]
      simp (maxSteps := 3000000) (disch := first | exact trivial | assumption | omega | exact rOk | exact rCl | exact rNo) only [go_sem, seval]
      refine callC p2 ?_ rfl ?_
      · simp (maxSteps := 3000000) (disch := first | exact trivial | assumption | omega | exact rOk | exact rCl | exact rNo) only [go_sem, seval]
      simp (maxSteps := 3000000) (disch := first | exact trivial | assumption | omega | exact rOk | exact rCl | exact rNo) only [go_sem, seval]
      refine callC hN ?_ rfl ?_
      · simp (maxSteps := 3000000) (disch := first | exact trivial | assumption | omega | exact rOk | exact rCl | exact rNo) only [go_sem, seval]
      by_cases h : b < a
      · have e1 : decide (¬ b < a) = false := decide_eq_false (fun h' => h' h)
        rw [if_pos h, if_pos h, e1]
        simp (maxSteps := 3000000) (disch := first | exact trivial | assumption | omega | exact rOk | exact rCl | exact rNo) only [go_sem, seval]
        exact LeV.tup (LesV.cons LeV_s0 (LesV.refl _))
      · have e1 : decide (¬ b < a) = true := decide_eq_true h
        rw [if_neg h, if_neg h, e1]
        simp (maxSteps := 3000000) (disch := first | exact trivial | assumption | omega | exact rOk | exact rCl | exact rNo) only [go_sem, seval]
        try exact LeV.refl _
end Go.Proofs.YtmcinfbckdiaoaaGreatDoor.Lv
