/- The program's quotients: Add, Mul, Div. -/
import Derived.Test.YtmcinfbckdiaoaaGreatDoorPW
set_option linter.unusedVariables false
set_option linter.unusedSimpArgs false
set_option maxRecDepth 100000
set_option maxHeartbeats 4000000
namespace Go.Proofs.YtmcinfbckdiaoaaGreatDoor.Lv
open Go Go.RowKit
theorem dOf_qden (q : Rat) : dOf (qden q) = q.den := by
  unfold dOf qden
  have := q.den_pos
  split <;> split <;> omega
theorem dOf_pos {n : Nat} (h : n ≠ 0) : dOf n = n := by unfold dOf; rw [if_neg h]
theorem add_same {a b : Rat} (h : qden a = qden b) : mkRat (a.num + b.num) (dOf (qden a)) = a + b := by
  have h1 := dOf_qden a
  have h2 := dOf_qden b
  rw [← h] at h2
  have hd : a.den = b.den := h1.symm.trans h2
  rw [h1, Rat.add_def', ← hd, ← Int.add_mul, Rat.mkRat_mul_right (Nat.pos_iff_ne_zero.1 a.den_pos)]
theorem mk_num_le (n : Int) {d : Nat} (hd : d ≠ 0) : zb (mkRat n d).num ≤ zb n ∧ nb (mkRat n d).den ≤ nb d := by
  obtain ⟨h1, _, h3⟩ := mk_parts n d hd
  unfold zb
  rw [h1, h3]
  exact ⟨nb_mono (Nat.div_le_self _ _), nb_mono (Nat.div_le_self _ _)⟩
/-- How great a quotient's parts are. -/
def qb (k : Nat) (q : Rat) : Prop := zb q.num ≤ k ∧ nb q.den ≤ k
theorem qb.qs {k : Nat} {q : Rat} (h : qb k q) (hk : k < 100000000) : qs q := ⟨Nat.lt_of_le_of_lt h.1 hk, Nat.lt_of_le_of_lt h.2 hk⟩
theorem qb.mono {j k : Nat} {q : Rat} (h : qb j q) (hk : j ≤ k) : qb k q := ⟨Nat.le_trans h.1 hk, Nat.le_trans h.2 hk⟩
theorem qb_add {j k : Nat} {a b : Rat} (ha : qb j a) (hb : qb k b) : qb (j + k + 1) (a + b) := by
  have hd : a.den * b.den ≠ 0 := Nat.mul_ne_zero (Nat.pos_iff_ne_zero.1 a.den_pos) (Nat.pos_iff_ne_zero.1 b.den_pos)
  have h := mk_num_le (a.num * b.den + b.num * a.den) hd
  rw [← Rat.add_def'] at h
  have h1 := zb_add (a.num * b.den) (b.num * a.den)
  have h2 := zb_mul a.num b.den
  have h3 := zb_mul b.num a.den
  have h4 := nb_mul a.den b.den
  have e1 : zb (b.den : Int) = nb b.den := rfl
  have e2 : zb (a.den : Int) = nb a.den := rfl
  obtain ⟨a1, a2⟩ := ha
  obtain ⟨b1, b2⟩ := hb
  exact ⟨by omega, by omega⟩
theorem qb_mul {j k : Nat} {a b : Rat} (ha : qb j a) (hb : qb k b) : qb (j + k) (a * b) := by
  have hd : a.den * b.den ≠ 0 := Nat.mul_ne_zero (Nat.pos_iff_ne_zero.1 a.den_pos) (Nat.pos_iff_ne_zero.1 b.den_pos)
  have h := mk_num_le (a.num * b.num) hd
  rw [← Rat.mul_def'] at h
  have h2 := zb_mul a.num b.num
  have h4 := nb_mul a.den b.den
  obtain ⟨a1, a2⟩ := ha
  obtain ⟨b1, b2⟩ := hb
  exact ⟨by omega, by omega⟩
theorem rat_Add {a b : Rat} (ha : qs a) (hb : qs b) : C E 18 [qD a, qD b] (qD (a + b)) := by
  refine CG_intro Tryz.func18 rfl (by kernel_rfl) rfl (by kernel_rfl) (by kernel_rfl) rfl ?_
  have m1 := zb_mul a.num b.den
  have m2 := zb_mul b.num a.den
  have m3 := zb_add (a.num * b.den) (b.num * a.den)
  have m4 := nb_mul a.den b.den
  have m5 := zb_add a.num b.num
  have hz1 : zb (b.den : Int) = nb b.den := rfl
  have hz2 : zb (a.den : Int) = nb a.den := rfl
  have n1 := nb_qden a
  have n2 := nb_qden b
  have a1 := ha.1
  have a2 := ha.2
  have b1 := hb.1
  have b2 := hb.2
  have hd : a.den * b.den ≠ 0 := Nat.mul_ne_zero (Nat.pos_iff_ne_zero.1 a.den_pos) (Nat.pos_iff_ne_zero.1 b.den_pos)
  simp (maxSteps := 3000000) (disch := first | exact trivial | assumption | omega | exact rOk | exact rCl | exact rNo) only [go_sem, seval]
  refine callC (nat_Cmp (a := qden a) (b := qden b) (by omega) (by omega)) ?_ rfl ?_
  · simp (maxSteps := 3000000) (disch := first | exact trivial | assumption | omega | exact rOk | exact rCl | exact rNo) only [go_sem, seval, natD_u32s]
    try exact LesV.refl _
  by_cases h : qden a = qden b
  · have hs : sgI (qden a : Int) (qden b : Int) = 0 := by rw [h, sgI_eq]
    have e := add_same h
    simp (maxSteps := 3000000) (disch := first | exact trivial | assumption | omega | exact rOk | exact rCl | exact rNo) only [go_sem, seval, hs]
    refine callCl (whole_Add (a := a.num) (b := b.num) (by omega) (by omega)) ?_ rfl ?_
    · simp (maxSteps := 3000000) (disch := first | exact trivial | assumption | omega | exact rOk | exact rCl | exact rNo) only [go_sem, seval]
      try exact LesV.refl _
    simp (maxSteps := 3000000) (disch := first | exact trivial | assumption | omega | exact rOk | exact rCl | exact rNo) only [go_sem, seval]
    refine callCl (rat_least (n := a.num + b.num) (d := qden a) (by omega) (by omega)) ?_ rfl ?_
    · simp (maxSteps := 3000000) (disch := first | exact trivial | assumption | omega | exact rOk | exact rCl | exact rNo) only [go_sem, seval, natD_u32s]
      try exact LesV.refl _
    simp (maxSteps := 3000000) (disch := first | exact trivial | assumption | omega | exact rOk | exact rCl | exact rNo) only [go_sem, seval]
    rw [e]
    try exact LeV.refl _
  · have hs : (sgI (qden a : Int) (qden b : Int) == 0) = false := by
      rcases (show qden a < qden b ∨ qden b < qden a by omega) with h | h
      · rw [sgI_lt (by omega)]; rfl
      · rw [sgI_gt (by omega)]; rfl
    have e : mkRat (a.num * b.den + b.num * a.den) (dOf (a.den * b.den)) = a + b := by rw [dOf_pos hd, Rat.add_def']
    simp (maxSteps := 3000000) (disch := first | exact trivial | assumption | omega | exact rOk | exact rCl | exact rNo) only [go_sem, seval, hs]
    refine callCl (rat_scaled ha hb) ?_ rfl ?_
    · simp (maxSteps := 3000000) (disch := first | exact trivial | assumption | omega | exact rOk | exact rCl | exact rNo) only [go_sem, seval]
    simp (maxSteps := 3000000) (disch := first | exact trivial | assumption | omega | exact rOk | exact rCl | exact rNo) only [go_sem, seval]
    refine callCl (rat_scaled hb ha) ?_ rfl ?_
    · simp (maxSteps := 3000000) (disch := first | exact trivial | assumption | omega | exact rOk | exact rCl | exact rNo) only [go_sem, seval]
    simp (maxSteps := 3000000) (disch := first | exact trivial | assumption | omega | exact rOk | exact rCl | exact rNo) only [go_sem, seval]
    refine callCl (whole_Add (a := a.num * b.den) (b := b.num * a.den) (by omega) (by omega)) ?_ rfl ?_
    · simp (maxSteps := 3000000) (disch := first | exact trivial | assumption | omega | exact rOk | exact rCl | exact rNo) only [go_sem, seval]
    simp (maxSteps := 3000000) (disch := first | exact trivial | assumption | omega | exact rOk | exact rCl | exact rNo) only [go_sem, seval]
    refine callCl (rat_den ha) ?_ rfl ?_
    · simp (maxSteps := 3000000) (disch := first | exact trivial | assumption | omega | exact rOk | exact rCl | exact rNo) only [go_sem, seval]
    simp (maxSteps := 3000000) (disch := first | exact trivial | assumption | omega | exact rOk | exact rCl | exact rNo) only [go_sem, seval]
    refine callCl (rat_den hb) ?_ rfl ?_
    · simp (maxSteps := 3000000) (disch := first | exact trivial | assumption | omega | exact rOk | exact rCl | exact rNo) only [go_sem, seval]
    simp (maxSteps := 3000000) (disch := first | exact trivial | assumption | omega | exact rOk | exact rCl | exact rNo) only [go_sem, seval]
    refine callCl (nat_Mul (a := a.den) (b := b.den) (by omega) (by omega)) ?_ rfl ?_
    · simp (maxSteps := 3000000) (disch := first | exact trivial | assumption | omega | exact rOk | exact rCl | exact rNo) only [go_sem, seval]
    simp (maxSteps := 3000000) (disch := first | exact trivial | assumption | omega | exact rOk | exact rCl | exact rNo) only [go_sem, seval]
    refine callCl (rat_least (n := a.num * b.den + b.num * a.den) (d := a.den * b.den) (by omega) (by omega)) ?_ rfl ?_
    · simp (maxSteps := 3000000) (disch := first | exact trivial | assumption | omega | exact rOk | exact rCl | exact rNo) only [go_sem, seval]
    simp (maxSteps := 3000000) (disch := first | exact trivial | assumption | omega | exact rOk | exact rCl | exact rNo) only [go_sem, seval]
    rw [e]
    try exact LeV.refl _
theorem rat_Mul {a b : Rat} (ha : qs a) (hb : qs b) : C E 163 [qD a, qD b] (qD (a * b)) := by
  refine CG_intro Tryz.func163 rfl (by kernel_rfl) rfl (by kernel_rfl) (by kernel_rfl) rfl ?_
  have m1 := zb_mul a.num b.num
  have m4 := nb_mul a.den b.den
  have a1 := ha.1
  have a2 := ha.2
  have b1 := hb.1
  have b2 := hb.2
  have hd : a.den * b.den ≠ 0 := Nat.mul_ne_zero (Nat.pos_iff_ne_zero.1 a.den_pos) (Nat.pos_iff_ne_zero.1 b.den_pos)
  have e : mkRat (a.num * b.num) (dOf (a.den * b.den)) = a * b := by rw [dOf_pos hd, Rat.mul_def']
  simp (maxSteps := 3000000) (disch := first | exact trivial | assumption | omega | exact rOk | exact rCl | exact rNo) only [go_sem, seval]
  refine callCl (whole_Mul (a := a.num) (b := b.num) (by omega) (by omega)) ?_ rfl ?_
  · simp (maxSteps := 3000000) (disch := first | exact trivial | assumption | omega | exact rOk | exact rCl | exact rNo) only [go_sem, seval]
    try exact LesV.refl _
  simp (maxSteps := 3000000) (disch := first | exact trivial | assumption | omega | exact rOk | exact rCl | exact rNo) only [go_sem, seval]
  refine callCl (rat_den ha) ?_ rfl ?_
  · simp (maxSteps := 3000000) (disch := first | exact trivial | assumption | omega | exact rOk | exact rCl | exact rNo) only [go_sem, seval]
  simp (maxSteps := 3000000) (disch := first | exact trivial | assumption | omega | exact rOk | exact rCl | exact rNo) only [go_sem, seval]
  refine callCl (rat_den hb) ?_ rfl ?_
  · simp (maxSteps := 3000000) (disch := first | exact trivial | assumption | omega | exact rOk | exact rCl | exact rNo) only [go_sem, seval]
  simp (maxSteps := 3000000) (disch := first | exact trivial | assumption | omega | exact rOk | exact rCl | exact rNo) only [go_sem, seval]
  refine callCl (nat_Mul (a := a.den) (b := b.den) (by omega) (by omega)) ?_ rfl ?_
  · simp (maxSteps := 3000000) (disch := first | exact trivial | assumption | omega | exact rOk | exact rCl | exact rNo) only [go_sem, seval]
  simp (maxSteps := 3000000) (disch := first | exact trivial | assumption | omega | exact rOk | exact rCl | exact rNo) only [go_sem, seval]
  refine callCl (rat_least (n := a.num * b.num) (d := a.den * b.den) (by omega) (by omega)) ?_ rfl ?_
  · simp (maxSteps := 3000000) (disch := first | exact trivial | assumption | omega | exact rOk | exact rCl | exact rNo) only [go_sem, seval]
  simp (maxSteps := 3000000) (disch := first | exact trivial | assumption | omega | exact rOk | exact rCl | exact rNo) only [go_sem, seval]
  rw [e]
  try exact LeV.refl _
theorem inv_mk {b : Rat} (h : b.num ≠ 0) : mkRat (mkZ (decide (b.num < 0)) b.den) (dOf b.num.natAbs) = b⁻¹ := by
  rw [dOf_pos (by omega), Rat.inv_def, ← Rat.divInt_ofNat]
  unfold mkZ
  by_cases h1 : b.num < 0
  · rw [if_pos (decide_eq_true h1)]
    have : ((b.num.natAbs : Nat) : Int) = - b.num := by omega
    rw [this, ← Rat.neg_divInt_neg]; simp
  · rw [if_neg (by simp [h1])]
    have : ((b.num.natAbs : Nat) : Int) = b.num := by omega
    rw [this]
theorem qb_inv {k : Nat} {b : Rat} (hb : qb k b) (h : b.num ≠ 0) : qb k b⁻¹ := by
  rw [← inv_mk h, dOf_pos (by omega)]
  have h1 := mk_num_le (mkZ (decide (b.num < 0)) b.den) (d := b.num.natAbs) (by omega)
  have h2 : zb (mkZ (decide (b.num < 0)) b.den) = nb b.den := by unfold zb; rw [mkZ_abs]
  have h3 : nb b.num.natAbs = zb b.num := rfl
  obtain ⟨b1, b2⟩ := hb
  exact ⟨by omega, by omega⟩
theorem qs.qb {q : Rat} (h : qs q) : qb 99999999 q := ⟨Nat.le_of_lt_succ h.1, Nat.le_of_lt_succ h.2⟩
theorem num_ne {b : Rat} (h : b ≠ 0) : b.num ≠ 0 := fun e => h (Rat.num_eq_zero.1 e)
theorem rat_Div {a b : Rat} (ha : qs a) (hb : qs b) (h0 : b ≠ 0) : C E 131 [qD a, qD b] (.tup [qD (a / b), .bool true]) := by
  refine CG_intro Tryz.func131 rfl (by kernel_rfl) rfl (by kernel_rfl) (by kernel_rfl) rfl ?_
  have hn := num_ne h0
  have a1 := ha.1
  have a2 := ha.2
  have b1 := hb.1
  have b2 := hb.2
  have hsg := sg_neg b.num
  have hse : (sgI b.num 0 == 0) = false := beq_eq_false_iff_ne.2 (by
    rcases (show b.num < 0 ∨ 0 < b.num by omega) with h | h
    · rw [sgI_lt h]; decide
    · rw [sgI_gt h]; decide)
  have hz : zb (mkZ (decide (b.num < 0)) b.den) = nb b.den := by unfold zb; rw [mkZ_abs]
  have hz2 : nb b.num.natAbs = zb b.num := rfl
  have hi := inv_mk hn
  have hqi := (qb_inv hb.qb hn).qs (by omega)
  simp (maxSteps := 3000000) (disch := first | exact trivial | assumption | omega | exact rOk | exact rCl | exact rNo) only [go_sem, seval]
  refine callC (rat_Sign hb) ?_ rfl ?_
  · simp (maxSteps := 3000000) (disch := first | exact trivial | assumption | omega | exact rOk | exact rCl | exact rNo) only [go_sem, seval]
  simp (maxSteps := 3000000) (disch := first | exact trivial | assumption | omega | exact rOk | exact rCl | exact rNo) only [go_sem, seval, hse]
  refine callCl (rat_Sign hb) ?_ rfl ?_
  · simp (maxSteps := 3000000) (disch := first | exact trivial | assumption | omega | exact rOk | exact rCl | exact rNo) only [go_sem, seval]
  simp (maxSteps := 3000000) (disch := first | exact trivial | assumption | omega | exact rOk | exact rCl | exact rNo) only [go_sem, seval, hsg]
  refine callCl (rat_den hb) ?_ rfl ?_
  · simp (maxSteps := 3000000) (disch := first | exact trivial | assumption | omega | exact rOk | exact rCl | exact rNo) only [go_sem, seval]
  simp (maxSteps := 3000000) (disch := first | exact trivial | assumption | omega | exact rOk | exact rCl | exact rNo) only [go_sem, seval, hsg]
  refine callCl (whole_From (decide (b.num < 0)) (n := b.den) (by omega)) ?_ rfl ?_
  · simp (maxSteps := 3000000) (disch := first | exact trivial | assumption | omega | exact rOk | exact rCl | exact rNo) only [go_sem, seval]
  simp (maxSteps := 3000000) (disch := first | exact trivial | assumption | omega | exact rOk | exact rCl | exact rNo) only [go_sem, seval, hsg]
  refine callCl (whole_Abs b.num) ?_ rfl ?_
  · simp (maxSteps := 3000000) (disch := first | exact trivial | assumption | omega | exact rOk | exact rCl | exact rNo) only [go_sem, seval]
    try exact LesV.refl _
  simp (maxSteps := 3000000) (disch := first | exact trivial | assumption | omega | exact rOk | exact rCl | exact rNo) only [go_sem, seval]
  refine callCl (rat_least (n := mkZ (decide (b.num < 0)) b.den) (d := b.num.natAbs) (by omega) (by omega)) ?_ rfl ?_
  · simp (maxSteps := 3000000) (disch := first | exact trivial | assumption | omega | exact rOk | exact rCl | exact rNo) only [go_sem, seval]
  rw [hi]
  simp (maxSteps := 3000000) (disch := first | exact trivial | assumption | omega | exact rOk | exact rCl | exact rNo) only [go_sem, seval]
  refine callCl (rat_Mul ha hqi) ?_ rfl ?_
  · simp (maxSteps := 3000000) (disch := first | exact trivial | assumption | omega | exact rOk | exact rCl | exact rNo) only [go_sem, seval]
  rw [← Rat.div_def]
  simp (maxSteps := 3000000) (disch := first | exact trivial | assumption | omega | exact rOk | exact rCl | exact rNo) only [go_sem, seval]
end Go.Proofs.YtmcinfbckdiaoaaGreatDoor.Lv
