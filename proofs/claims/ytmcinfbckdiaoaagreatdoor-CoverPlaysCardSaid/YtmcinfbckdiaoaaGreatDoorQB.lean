/- The program's dyadic numbers: Of. -/
import Derived.Test.YtmcinfbckdiaoaaGreatDoorQA
set_option linter.unusedVariables false
set_option linter.unusedSimpArgs false
set_option maxRecDepth 100000
set_option maxHeartbeats 4000000
namespace Go.Proofs.YtmcinfbckdiaoaaGreatDoor.Lv
open Go Go.RowKit
def dyD (z e : Int) : D := .agg [u32s (limbs z.natAbs), .bool (decide (z < 0)), .int .i64 e]
section
variable (z e : Int) (h : Hp) (ρ : Nat → Option Nat)
theorem cl_dyD : cl (dyD z e) = true := Eq.trans rfl rfl
theorem flat_dyD : flat (dyD z e) = false := Eq.trans rfl rfl
theorem imp_dyD : imp ρ h (dyD z e) = dyD z e := Eq.trans rfl rfl
theorem refs_dyD : refs ρ (dyD z e) = [] := Eq.trans rfl rfl
theorem asAgg_dyD : asAgg (dyD z e) = some [u32s (limbs z.natAbs), .bool (decide (z < 0)), .int .i64 e] := Eq.trans rfl rfl
theorem one_dyD : one h (dyD z e) = false := Eq.trans rfl rfl
end
attribute [go_sem] cl_dyD flat_dyD imp_dyD refs_dyD asAgg_dyD one_dyD
theorem LeV_dy0 : LeV (.agg [.nils, .bool false, .int .i64 0]) (dyD 0 0) := by
  refine LeV.agg (LesV.cons ?_ (LesV.refl _))
  rw [Int.natAbs_zero, limbs_zero]; exact LeV.nils
theorem tz_le (n : Nat) : tz n ≤ nbit n := by
  by_cases h : n = 0
  · subst h; rw [tz]; simp
  · obtain ⟨a, ha⟩ := tz_spec h
    rcases Nat.lt_or_ge (nbit n) (tz n) with h1 | h1
    · have h2 := (nbit_lt (n := n) (k := tz n)).1 (by omega)
      have h3 : 2 ^ tz n * 1 ≤ 2 ^ tz n * (2 * a + 1) := Nat.mul_le_mul_left _ (by omega)
      omega
    · exact h1
/-- The odd part's number. -/
def odZ (m : Int) : Int := if m = 0 then 0 else mkZ (decide (m < 0)) (m.natAbs / 2 ^ shN (tz m.natAbs : Int))
def odE (m e : Int) : Int := if m = 0 then 0 else e + tz m.natAbs
theorem dyad_odd {m e : Int} (hm : zb m < 100000000) (he : -4000000000 ≤ e ∧ e ≤ 4000000000) : C E 145 [zD m, .int .i64 e] (dyD (odZ m) (odE m e)) := by
  refine CG_intro Tryz.func145 rfl (by kernel_rfl) rfl (by kernel_rfl) (by kernel_rfl) rfl ?_
  have hm' : nb m.natAbs < 100000000 := hm
  by_cases h0 : m = 0
  · subst h0
    have h00 : sgI 0 0 = 0 := rfl
    have e1 : odZ 0 = 0 := rfl
    have e2 : odE 0 e = 0 := rfl
    rw [e1, e2]
    simp (maxSteps := 3000000) (disch := first | exact trivial | assumption | omega | exact rOk | exact rCl | exact rNo) only [go_sem, seval]
    refine callC (whole_Sign (z := 0) (by omega)) ?_ rfl ?_
    · simp (maxSteps := 3000000) (disch := first | exact trivial | assumption | omega | exact rOk | exact rCl | exact rNo) only [go_sem, seval]
    simp (maxSteps := 3000000) (disch := first | exact trivial | assumption | omega | exact rOk | exact rCl | exact rNo) only [go_sem, seval, h00]
    exact LeV_dy0
  have hse : (sgI m 0 == 0) = false := beq_eq_false_iff_ne.2 (by
    rcases (show m < 0 ∨ 0 < m by omega) with h | h
    · rw [sgI_lt h]; decide
    · rw [sgI_gt h]; decide)
  have hsg := sg_neg m
  have ht := tz_le m.natAbs
  have hb := nbit_nb m.natAbs
  have e1 : odZ m = mkZ (decide (m < 0)) (m.natAbs / 2 ^ shN (tz m.natAbs : Int)) := by unfold odZ; rw [if_neg h0]
  have e2 : odE m e = e + tz m.natAbs := by unfold odE; rw [if_neg h0]
  have hd := nb_mono (Nat.div_le_self m.natAbs (2 ^ shN (tz m.natAbs : Int)))
  have hSh := nat_Shr (a := m.natAbs) (by omega) (tz m.natAbs : Int)
  have hF := whole_From (decide (m < 0)) (n := m.natAbs / 2 ^ shN (tz m.natAbs : Int)) (by omega)
  rw [← e1] at hF
  have hZ := nat_Zeros (n := m.natAbs) (by omega)
  rw [e2]
  generalize tz m.natAbs = t at *
  generalize m.natAbs / 2 ^ shN (t : Int) = x at *
  generalize odZ m = y at *
  simp (maxSteps := 3000000) (disch := first | exact trivial | assumption | omega | exact rOk | exact rCl | exact rNo) only [go_sem, seval]
  refine callC (whole_Sign (z := m) (by omega)) ?_ rfl ?_
  · simp (maxSteps := 3000000) (disch := first | exact trivial | assumption | omega | exact rOk | exact rCl | exact rNo) only [go_sem, seval]
  simp (maxSteps := 3000000) (disch := first | exact trivial | assumption | omega | exact rOk | exact rCl | exact rNo) only [go_sem, seval, hse]
  refine callC (whole_Abs m) ?_ rfl ?_
  · simp (maxSteps := 3000000) (disch := first | exact trivial | assumption | omega | exact rOk | exact rCl | exact rNo) only [go_sem, seval]
  simp (maxSteps := 3000000) (disch := first | exact trivial | assumption | omega | exact rOk | exact rCl | exact rNo) only [go_sem, seval]
  refine callC hZ ?_ rfl ?_
  · simp (maxSteps := 3000000) (disch := first | exact trivial | assumption | omega | exact rOk | exact rCl | exact rNo) only [go_sem, seval]
  simp (maxSteps := 3000000) (disch := first | exact trivial | assumption | omega | exact rOk | exact rCl | exact rNo) only [go_sem, seval]
  refine callCl (whole_Sign (z := m) (by omega)) ?_ rfl ?_
  · simp (maxSteps := 3000000) (disch := first | exact trivial | assumption | omega | exact rOk | exact rCl | exact rNo) only [go_sem, seval]
  simp (maxSteps := 3000000) (disch := first | exact trivial | assumption | omega | exact rOk | exact rCl | exact rNo) only [go_sem, seval, hsg]
  refine callCl (whole_Abs m) ?_ rfl ?_
  · simp (maxSteps := 3000000) (disch := first | exact trivial | assumption | omega | exact rOk | exact rCl | exact rNo) only [go_sem, seval]
  simp (maxSteps := 3000000) (disch := first | exact trivial | assumption | omega | exact rOk | exact rCl | exact rNo) only [go_sem, seval]
  refine callCl hSh ?_ rfl ?_
  · simp (maxSteps := 3000000) (disch := first | exact trivial | assumption | omega | exact rOk | exact rCl | exact rNo) only [go_sem, seval]
  simp (maxSteps := 3000000) (disch := first | exact trivial | assumption | omega | exact rOk | exact rCl | exact rNo) only [go_sem, seval]
  refine callCl hF ?_ rfl ?_
  · simp (maxSteps := 3000000) (disch := first | exact trivial | assumption | omega | exact rOk | exact rCl | exact rNo) only [go_sem, seval]
  simp (maxSteps := 3000000) (disch := first | exact trivial | assumption | omega | exact rOk | exact rCl | exact rNo) only [go_sem, seval]
  try exact LeV.refl _
/-- Is the denominator a power of two? -/
def dyq (q : Rat) : Prop := tz q.den + 1 = nbit q.den
instance (q : Rat) : Decidable (dyq q) := by unfold dyq; infer_instance
def dyO (q : Rat) : D := if dyq q then dyD (odZ q.num) (odE q.num (-(tz q.den : Int))) else dyD 0 0
theorem cl_dyO (q : Rat) : cl (dyO q) = true := by unfold dyO; split <;> rfl
theorem dyad_Of {q : Rat} (hq : qs q) : C E 101 [qD q] (.tup [dyO q, .bool (decide (dyq q))]) := by
  refine CG_intro Tryz.func101 rfl (by kernel_rfl) rfl (by kernel_rfl) (by kernel_rfl) rfl ?_
  have h2 := hq.2
  have ht := tz_le q.den
  have hb := nbit_nb q.den
  have hp := nbit_pos q.den_pos
  have hA := whole_Abs (q.den : Int)
  rw [Int.natAbs_natCast] at hA
  have hZ := nat_Zeros (n := q.den) (by omega)
  have hB := nat_Bits (n := q.den) (by omega)
  have hO := dyad_odd (m := q.num) (e := -(tz q.den : Int)) hq.1 (by omega)
  simp (maxSteps := 3000000) (disch := first | exact trivial | assumption | omega | exact rOk | exact rCl | exact rNo) only [go_sem, seval]
  refine callC (rat_Den hq) ?_ rfl ?_
  · simp (maxSteps := 3000000) (disch := first | exact trivial | assumption | omega | exact rOk | exact rCl | exact rNo) only [go_sem, seval]
  simp (maxSteps := 3000000) (disch := first | exact trivial | assumption | omega | exact rOk | exact rCl | exact rNo) only [go_sem, seval]
  refine callC hA ?_ rfl ?_
  · simp (maxSteps := 3000000) (disch := first | exact trivial | assumption | omega | exact rOk | exact rCl | exact rNo) only [go_sem, seval]
  simp (maxSteps := 3000000) (disch := first | exact trivial | assumption | omega | exact rOk | exact rCl | exact rNo) only [go_sem, seval]
  refine callCl hZ ?_ rfl ?_
  · simp (maxSteps := 3000000) (disch := first | exact trivial | assumption | omega | exact rOk | exact rCl | exact rNo) only [go_sem, seval]
  simp (maxSteps := 3000000) (disch := first | exact trivial | assumption | omega | exact rOk | exact rCl | exact rNo) only [go_sem, seval]
  refine callCl hB ?_ rfl ?_
  · simp (maxSteps := 3000000) (disch := first | exact trivial | assumption | omega | exact rOk | exact rCl | exact rNo) only [go_sem, seval]
  by_cases h : dyq q
  · have e : dyO q = dyD (odZ q.num) (odE q.num (-(tz q.den : Int))) := by unfold dyO; rw [if_pos h]
    rw [e, decide_eq_true h]
    unfold dyq at h
    simp (maxSteps := 3000000) (disch := first | exact trivial | assumption | omega | exact rOk | exact rCl | exact rNo) only [go_sem, seval]
    refine callCl (rat_Num q) ?_ rfl ?_
    · simp (maxSteps := 3000000) (disch := first | exact trivial | assumption | omega | exact rOk | exact rCl | exact rNo) only [go_sem, seval]
    simp (maxSteps := 3000000) (disch := first | exact trivial | assumption | omega | exact rOk | exact rCl | exact rNo) only [go_sem, seval]
    refine callCl hZ ?_ rfl ?_
    · simp (maxSteps := 3000000) (disch := first | exact trivial | assumption | omega | exact rOk | exact rCl | exact rNo) only [go_sem, seval]
    simp (maxSteps := 3000000) (disch := first | exact trivial | assumption | omega | exact rOk | exact rCl | exact rNo) only [go_sem, seval]
    refine callCl hO ?_ rfl ?_
    · simp (maxSteps := 3000000) (disch := first | exact trivial | assumption | omega | exact rOk | exact rCl | exact rNo) only [go_sem, seval]
      try exact LesV.cons (LeV.refl _) (LesV.cons (LeV_int (by omega)) LesV.nil)
    simp (maxSteps := 3000000) (disch := first | exact trivial | assumption | omega | exact rOk | exact rCl | exact rNo) only [go_sem, seval]
    try exact LeV.refl _
  · have e : dyO q = dyD 0 0 := by unfold dyO; rw [if_neg h]
    rw [e, decide_eq_false h]
    unfold dyq at h
    simp (maxSteps := 3000000) (disch := first | exact trivial | assumption | omega | exact rOk | exact rCl | exact rNo) only [go_sem, seval]
    exact LeV.tup (LesV.cons LeV_dy0 (LesV.refl _))
end Go.Proofs.YtmcinfbckdiaoaaGreatDoor.Lv
