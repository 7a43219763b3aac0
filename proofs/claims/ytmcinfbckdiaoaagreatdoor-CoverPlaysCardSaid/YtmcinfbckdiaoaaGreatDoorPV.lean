/- The program's quotients: den, Den, scaled, Cmp, Of, Num, Sign. -/
import Derived.Test.YtmcinfbckdiaoaaGreatDoorPU
import Derived.Test.YtmcinfbckdiaoaaGreatDoorPT
set_option linter.unusedVariables false
set_option linter.unusedSimpArgs false
set_option maxRecDepth 100000
set_option maxHeartbeats 4000000
namespace Go.Proofs.YtmcinfbckdiaoaaGreatDoor.Lv
open Go Go.RowKit
section
variable (q : Rat) (h : Hp) (ρ : Nat → Option Nat) (r : Nat → Nat)
theorem cl_qD : cl (qD q) = true := Eq.trans rfl rfl
theorem flat_qD : flat (qD q) = false := Eq.trans rfl rfl
theorem imp_qD : imp ρ h (qD q) = qD q := Eq.trans rfl rfl
theorem refs_qD : refs ρ (qD q) = [] := Eq.trans rfl rfl
theorem asAgg_qD : asAgg (qD q) = some [u32s (limbs q.num.natAbs), .bool (decide (q.num < 0)), u32s (limbs (qden q))] := Eq.trans rfl rfl
theorem one_qD : one h (qD q) = false := Eq.trans rfl rfl
end
attribute [go_sem] cl_qD flat_qD imp_qD refs_qD asAgg_qD one_qD
/-- Not too great. -/
def qs (q : Rat) : Prop := zb q.num < 100000000 ∧ nb q.den < 100000000
theorem nb_qden (q : Rat) : nb (qden q) ≤ nb q.den := by
  unfold qden; split
  · exact nb_mono (Nat.zero_le _)
  · exact Nat.le_refl _
theorem nbit_zero {n : Nat} : nbit n = 0 ↔ n = 0 := by
  constructor
  · intro h; rcases Nat.eq_zero_or_pos n with h0 | h0
    · exact h0
    · have := nbit_pos h0; omega
  · intro h; subst h; rfl
theorem qden_zero {q : Rat} : qden q = 0 ↔ q.den = 1 := by
  unfold qden
  have := q.den_pos
  split <;> omega
theorem rat_den {q : Rat} (hq : qs q) : C E 61 [qD q] (natD q.den) := by
  refine CG_intro Tryz.func61 rfl (by kernel_rfl) rfl (by kernel_rfl) (by kernel_rfl) rfl ?_
  have hn := nb_qden q
  have h2 := hq.2
  have hl := nbit_nb (qden q)
  simp (maxSteps := 3000000) (disch := first | exact trivial | assumption | omega | exact rOk | exact rCl | exact rNo) only [go_sem, seval]
  refine callC (nat_Bits (n := qden q) (by omega)) ?_ rfl ?_
  · simp (maxSteps := 3000000) (disch := first | exact trivial | assumption | omega | exact rOk | exact rCl | exact rNo) only [go_sem, seval, natD_u32s]
    try exact LesV.refl _
  by_cases h1 : q.den = 1
  · have h0 := nbit_zero.2 (qden_zero.2 h1)
    rw [h1]
    simp (maxSteps := 3000000) (disch := first | exact trivial | assumption | omega | exact rOk | exact rCl | exact rNo) only [go_sem, seval, h0]
    refine callC (nat_Of (v := 1) (by omega)) ?_ rfl ?_
    · simp (maxSteps := 3000000) (disch := first | exact trivial | assumption | omega | exact rOk | exact rCl | exact rNo) only [go_sem, seval]
      try exact LesV.refl _
    simp (maxSteps := 3000000) (disch := first | exact trivial | assumption | omega | exact rOk | exact rCl | exact rNo) only [go_sem, seval]
  · have h0 : 0 < nbit (qden q) := nbit_pos (Nat.pos_of_ne_zero fun e => h1 (qden_zero.1 e))
    have e : qden q = q.den := by unfold qden; rw [if_neg h1]
    simp (maxSteps := 3000000) (disch := first | exact trivial | assumption | omega | exact rOk | exact rCl | exact rNo) only [go_sem, seval, natD_u32s]
    rw [e]
    try exact LeV.refl _
theorem rat_Den {q : Rat} (hq : qs q) : C E 88 [qD q] (zD q.den) := by
  refine CG_intro Tryz.func88 rfl (by kernel_rfl) rfl (by kernel_rfl) (by kernel_rfl) rfl ?_
  have h2 := hq.2
  have hf := whole_From false (n := q.den) (by omega)
  rw [show mkZ false q.den = (q.den : Int) from rfl] at hf
  simp (maxSteps := 3000000) (disch := first | exact trivial | assumption | omega | exact rOk | exact rCl | exact rNo) only [go_sem, seval]
  refine callC (rat_den hq) ?_ rfl ?_
  · simp (maxSteps := 3000000) (disch := first | exact trivial | assumption | omega | exact rOk | exact rCl | exact rNo) only [go_sem, seval]
  simp (maxSteps := 3000000) (disch := first | exact trivial | assumption | omega | exact rOk | exact rCl | exact rNo) only [go_sem, seval]
  refine callC hf ?_ rfl ?_
  · simp (maxSteps := 3000000) (disch := first | exact trivial | assumption | omega | exact rOk | exact rCl | exact rNo) only [go_sem, seval]
  simp (maxSteps := 3000000) (disch := first | exact trivial | assumption | omega | exact rOk | exact rCl | exact rNo) only [go_sem, seval]
theorem rat_Num (q : Rat) : C E 146 [qD q] (zD q.num) := by
  refine CG_intro Tryz.func146 rfl (by kernel_rfl) rfl (by kernel_rfl) (by kernel_rfl) rfl ?_
  simp (maxSteps := 3000000) (disch := first | exact trivial | assumption | omega | exact rOk | exact rCl | exact rNo) only [go_sem, seval]
  try exact LeV.refl _
theorem rat_Sign {q : Rat} (hq : qs q) : C E 162 [qD q] (.int .i64 (sgI q.num 0)) := by
  refine CG_intro Tryz.func162 rfl (by kernel_rfl) rfl (by kernel_rfl) (by kernel_rfl) rfl ?_
  have h1 : nb q.num.natAbs < 100000000 := hq.1
  simp (maxSteps := 3000000) (disch := first | exact trivial | assumption | omega | exact rOk | exact rCl | exact rNo) only [go_sem, seval]
  refine callC (whole_Sign (z := q.num) (by omega)) ?_ rfl ?_
  · simp (maxSteps := 3000000) (disch := first | exact trivial | assumption | omega | exact rOk | exact rCl | exact rNo) only [go_sem, seval]
    try exact LesV.refl _
  simp (maxSteps := 3000000) (disch := first | exact trivial | assumption | omega | exact rOk | exact rCl | exact rNo) only [go_sem, seval]
theorem rat_scaled {a b : Rat} (ha : qs a) (hb : qs b) : C E 55 [qD a, qD b] (zD (a.num * b.den)) := by
  refine CG_intro Tryz.func55 rfl (by kernel_rfl) rfl (by kernel_rfl) (by kernel_rfl) rfl ?_
  have hn := nb_qden b
  have h2 := hb.2
  have h1 := ha.1
  have hl := nbit_nb (qden b)
  simp (maxSteps := 3000000) (disch := first | exact trivial | assumption | omega | exact rOk | exact rCl | exact rNo) only [go_sem, seval]
  refine callC (nat_Bits (n := qden b) (by omega)) ?_ rfl ?_
  · simp (maxSteps := 3000000) (disch := first | exact trivial | assumption | omega | exact rOk | exact rCl | exact rNo) only [go_sem, seval, natD_u32s]
    try exact LesV.refl _
  by_cases h1' : b.den = 1
  · have h0 := nbit_zero.2 (qden_zero.2 h1')
    have e : a.num * (b.den : Int) = a.num := by rw [h1']; simp
    rw [e]
    simp (maxSteps := 3000000) (disch := first | exact trivial | assumption | omega | exact rOk | exact rCl | exact rNo) only [go_sem, seval, h0]
    try exact LeV.refl _
  · have h0 : 0 < nbit (qden b) := nbit_pos (Nat.pos_of_ne_zero fun e => h1' (qden_zero.1 e))
    have hz : zb (b.den : Int) = nb b.den := rfl
    simp (maxSteps := 3000000) (disch := first | exact trivial | assumption | omega | exact rOk | exact rCl | exact rNo) only [go_sem, seval]
    refine callCl (rat_Den hb) ?_ rfl ?_
    · simp (maxSteps := 3000000) (disch := first | exact trivial | assumption | omega | exact rOk | exact rCl | exact rNo) only [go_sem, seval]
    simp (maxSteps := 3000000) (disch := first | exact trivial | assumption | omega | exact rOk | exact rCl | exact rNo) only [go_sem, seval]
    refine callCl (whole_Mul (a := a.num) (b := (b.den : Int)) (by omega) (by omega)) ?_ rfl ?_
    · simp (maxSteps := 3000000) (disch := first | exact trivial | assumption | omega | exact rOk | exact rCl | exact rNo) only [go_sem, seval]
      try exact LesV.refl _
    simp (maxSteps := 3000000) (disch := first | exact trivial | assumption | omega | exact rOk | exact rCl | exact rNo) only [go_sem, seval]
theorem rat_Cmp {a b : Rat} (ha : qs a) (hb : qs b) : C E 16 [qD a, qD b] (.int .i64 (sgQ a b)) := by
  refine CG_intro Tryz.func16 rfl (by kernel_rfl) rfl (by kernel_rfl) (by kernel_rfl) rfl ?_
  have m1 := zb_mul a.num b.den
  have m2 := zb_mul b.num a.den
  have hz1 : zb (b.den : Int) = nb b.den := rfl
  have hz2 : zb (a.den : Int) = nb a.den := rfl
  have a1 := ha.1
  have a2 := ha.2
  have b1 := hb.1
  have b2 := hb.2
  have hc := whole_Cmp (a := a.num * b.den) (b := b.num * a.den) (by show zb _ < _; omega) (by show zb _ < _; omega)
  rw [sgQ_cross] at hc
  simp (maxSteps := 3000000) (disch := first | exact trivial | assumption | omega | exact rOk | exact rCl | exact rNo) only [go_sem, seval]
  refine callCl (rat_scaled ha hb) ?_ rfl ?_
  · simp (maxSteps := 3000000) (disch := first | exact trivial | assumption | omega | exact rOk | exact rCl | exact rNo) only [go_sem, seval]
  simp (maxSteps := 3000000) (disch := first | exact trivial | assumption | omega | exact rOk | exact rCl | exact rNo) only [go_sem, seval]
  refine callCl (rat_scaled hb ha) ?_ rfl ?_
  · simp (maxSteps := 3000000) (disch := first | exact trivial | assumption | omega | exact rOk | exact rCl | exact rNo) only [go_sem, seval]
  simp (maxSteps := 3000000) (disch := first | exact trivial | assumption | omega | exact rOk | exact rCl | exact rNo) only [go_sem, seval]
  refine callCl hc ?_ rfl ?_
  · simp (maxSteps := 3000000) (disch := first | exact trivial | assumption | omega | exact rOk | exact rCl | exact rNo) only [go_sem, seval]
  simp (maxSteps := 3000000) (disch := first | exact trivial | assumption | omega | exact rOk | exact rCl | exact rNo) only [go_sem, seval]
theorem qD_int (v : Int) : LeV (.agg [u32s (limbs v.natAbs), .bool (decide (v < 0)), .nils]) (qD (v : Rat)) := by
  have e : qden (v : Rat) = 0 := qden_zero.2 (Rat.den_intCast v)
  rw [qD, e, limbs_zero, Rat.num_intCast]
  exact LeV.agg (LesV.cons (LeV.refl _) (LesV.cons (LeV.refl _) (LesV.cons LeV.nils LesV.nil)))
theorem rat_Of {v : Int} (h1 : -9223372036854775808 ≤ v) (h2 : v < 9223372036854775808) : C E 132 [.int .i64 v] (qD (v : Rat)) := by
  refine CG_intro Tryz.func132 rfl (by kernel_rfl) rfl (by kernel_rfl) (by kernel_rfl) rfl ?_
  simp (maxSteps := 3000000) (disch := first | exact trivial | assumption | omega | exact rOk | exact rCl | exact rNo) only [go_sem, seval]
  refine callC (whole_Of h1 h2) ?_ rfl ?_
  · simp (maxSteps := 3000000) (disch := first | exact trivial | assumption | omega | exact rOk | exact rCl | exact rNo) only [go_sem, seval]
  simp (maxSteps := 3000000) (disch := first | exact trivial | assumption | omega | exact rOk | exact rCl | exact rNo) only [go_sem, seval]
  exact qD_int v
end Go.Proofs.YtmcinfbckdiaoaaGreatDoor.Lv
