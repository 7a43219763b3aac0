/- The document's quotients: RatNew. The document's quotients: RatMul, RatAdd, Half, Mid. The document's quotients: Half, Mid. The document's quotients and boxes: RatNeg, RatSub, Width, BoxRight. The document's boxes: Widest; law5.Of. The document's boxes: Widest of a box; law5.Of of what is none. The document's boxes: law5.Of of what is none; any sides. Boxes: the middle; the document's halves. -/
import Derived.Test.YtmcinfbckdiaoaaGreatDoorRb
import Derived.Test.YtmcinfbckdiaoaaGreatDoorRd
import Derived.Test.YtmcinfbckdiaoaaGreatDoorLc
set_option linter.unusedVariables false
set_option linter.unusedSimpArgs false
set_option maxRecDepth 100000
set_option maxHeartbeats 4000000
namespace Go.Proofs.YtmcinfbckdiaoaaGreatDoor.Lv
open Go Go.RowKit
theorem ref_RatNew {n : Int} {d : Nat} (hd : d ≠ 0) (hn : zb n < 60000000) (hdb : nb d < 60000000) : C E 117 [iD n, iD (d : Int)] (rqD (mkRat n d)) := by
  refine CG_intro Tryz.func117 rfl (by kernel_rfl) rfl (by kernel_rfl) (by kernel_rfl) rfl ?_
  have hn' : nb n.natAbs < 60000000 := hn
  have h1nb : nb 1 ≤ 1 := nb_lt.2 (by omega)
  have hC := ref_CmpNat (a := d) (b := 1) (by omega) (by omega)
  have hO := ref_NatOf (v := 1) (by omega)
  have hG := ref_Gcd (a := d) (b := n.natAbs) (by omega) (by omega)
  obtain ⟨m0, m1, m2⟩ := mk_parts n d hd
  have mk2 := mk_num (n := n) (d := d) hd
  have hi : iD (d : Int) = .agg [.bool false, nD d] := iD_nat d
  have hg0 : Nat.gcd d n.natAbs ≠ 0 := fun h => hd (Nat.eq_zero_of_gcd_eq_zero_left h)
  have hgle : d.gcd n.natAbs ≤ d := Nat.le_of_dvd (by omega) (Nat.gcd_dvd_left _ _)
  have hgnb := nb_mono hgle
  have hr : rqD (mkRat n d) = .agg [.bool (decide (mkZ (decide (n < 0)) (n.natAbs / d.gcd n.natAbs) < 0)), nD (mkZ (decide (n < 0)) (n.natAbs / d.gcd n.natAbs)).natAbs, nD (d / d.gcd n.natAbs)] := by
    rw [rqD, ← mk2, m2]
  rw [hr, hi]
  have hn1 : d.gcd n.natAbs = 1 → mkZ (decide (n < 0)) (n.natAbs / d.gcd n.natAbs) = n ∧ d / d.gcd n.natAbs = d := fun h => by
    rw [h, Nat.div_one, Nat.div_one, mkZ_self]; exact ⟨rfl, rfl⟩
  by_cases h : d = 1
  · have es : sgI ((d : Nat) : Int) ((1 : Nat) : Int) = 0 := by rw [h]; rfl
    obtain ⟨x1, x2⟩ := hn1 (by rw [h, Nat.gcd_one_left])
    rw [es] at hC
    rw [x1, x2]
    simp (maxSteps := 3000000) (disch := first | exact trivial | assumption | omega | exact rOk | exact rCl | exact rNo) only [go_sem, seval, iD]
    refine callCl hO ?_ rfl ?_
    · simp (maxSteps := 3000000) (disch := first | exact trivial | assumption | omega | exact rOk | exact rCl | exact rNo) only [go_sem, seval]
      try exact LesV.refl _
    simp (maxSteps := 3000000) (disch := first | exact trivial | assumption | omega | exact rOk | exact rCl | exact rNo) only [go_sem, seval, iD]
    refine callCl hC ?_ rfl ?_
    · simp (maxSteps := 3000000) (disch := first | exact trivial | assumption | omega | exact rOk | exact rCl | exact rNo) only [go_sem, seval]
      try exact LesV.refl _
    simp (maxSteps := 3000000) (disch := first | exact trivial | assumption | omega | exact rOk | exact rCl | exact rNo) only [go_sem, seval, iD]
    try exact LeV.refl _
  · have es : sgI ((d : Nat) : Int) ((1 : Nat) : Int) = 1 := sgI_gt (by omega)
    rw [es] at hC
    simp (maxSteps := 3000000) (disch := first | exact trivial | assumption | omega | exact rOk | exact rCl | exact rNo) only [go_sem, seval, iD]
    refine callCl hO ?_ rfl ?_
    · simp (maxSteps := 3000000) (disch := first | exact trivial | assumption | omega | exact rOk | exact rCl | exact rNo) only [go_sem, seval]
      try exact LesV.refl _
    simp (maxSteps := 3000000) (disch := first | exact trivial | assumption | omega | exact rOk | exact rCl | exact rNo) only [go_sem, seval, iD]
    refine callCl hC ?_ rfl ?_
    · simp (maxSteps := 3000000) (disch := first | exact trivial | assumption | omega | exact rOk | exact rCl | exact rNo) only [go_sem, seval]
      try exact LesV.refl _
    simp (maxSteps := 3000000) (disch := first | exact trivial | assumption | omega | exact rOk | exact rCl | exact rNo) only [go_sem, seval, iD]
    refine callC hG ?_ rfl ?_
    · simp (maxSteps := 3000000) (disch := first | exact trivial | assumption | omega | exact rOk | exact rCl | exact rNo) only [go_sem, seval]
      try exact LesV.refl _
    simp (maxSteps := 3000000) (disch := first | exact trivial | assumption | omega | exact rOk | exact rCl | exact rNo) only [go_sem, seval, iD]
    refine callC hO ?_ rfl ?_
    · simp (maxSteps := 3000000) (disch := first | exact trivial | assumption | omega | exact rOk | exact rCl | exact rNo) only [go_sem, seval]
      try exact LesV.refl _
    simp (maxSteps := 3000000) (disch := first | exact trivial | assumption | omega | exact rOk | exact rCl | exact rNo) only [go_sem, seval, iD]
    refine callC (ref_CmpNat (a := d.gcd n.natAbs) (b := 1) (by omega) (by omega)) ?_ rfl ?_
    · simp (maxSteps := 3000000) (disch := first | exact trivial | assumption | omega | exact rOk | exact rCl | exact rNo) only [go_sem, seval]
      try exact LesV.refl _
    by_cases hg : d.gcd n.natAbs = 1
    · obtain ⟨x1, x2⟩ := hn1 hg
      have es1 : sgI ((d.gcd n.natAbs : Nat) : Int) ((1 : Nat) : Int) = 0 := by rw [hg]; rfl
      rw [x1, x2]
      simp (maxSteps := 3000000) (disch := first | exact trivial | assumption | omega | exact rOk | exact rCl | exact rNo) only [go_sem, seval, iD, es1]
      try exact LeV.refl _
    · have es1 : sgI ((d.gcd n.natAbs : Nat) : Int) ((1 : Nat) : Int) = 1 := sgI_gt (by omega)
      have es2 : (sgI ((d.gcd n.natAbs : Nat) : Int) 1 != 0) = true := by rw [sgI_gt (by omega)]; rfl
      have hD1 := ref_DivNat (a := n.natAbs) (b := d.gcd n.natAbs) (by omega) (by omega) hg0
      have hD2 := ref_DivNat (a := d) (b := d.gcd n.natAbs) (by omega) (by omega) hg0
      have hF := ref_IntFrom (decide (n < 0)) (n := n.natAbs / d.gcd n.natAbs) (by have := nb_mono (Nat.div_le_self n.natAbs (d.gcd n.natAbs)); omega)
      simp (maxSteps := 3000000) (disch := first | exact trivial | assumption | omega | exact rOk | exact rCl | exact rNo) only [go_sem, seval, iD, es1, es2]
      refine callC hD1 ?_ rfl ?_
      · simp (maxSteps := 3000000) (disch := first | exact trivial | assumption | omega | exact rOk | exact rCl | exact rNo) only [go_sem, seval]
        try exact LesV.refl _
      simp (maxSteps := 3000000) (disch := first | exact trivial | assumption | omega | exact rOk | exact rCl | exact rNo) only [go_sem, seval, iD]
      refine callC hD2 ?_ rfl ?_
      · simp (maxSteps := 3000000) (disch := first | exact trivial | assumption | omega | exact rOk | exact rCl | exact rNo) only [go_sem, seval]
        try exact LesV.refl _
      simp (maxSteps := 3000000) (disch := first | exact trivial | assumption | omega | exact rOk | exact rCl | exact rNo) only [go_sem, seval, iD]
      refine callC hF ?_ rfl ?_
      · simp (maxSteps := 3000000) (disch := first | exact trivial | assumption | omega | exact rOk | exact rCl | exact rNo) only [go_sem, seval]
        try exact LesV.refl _
      simp (maxSteps := 3000000) (disch := first | exact trivial | assumption | omega | exact rOk | exact rCl | exact rNo) only [go_sem, seval, iD]
      try exact LeV.refl _
end Go.Proofs.YtmcinfbckdiaoaaGreatDoor.Lv

set_option linter.unusedVariables false
set_option linter.unusedSimpArgs false
set_option maxRecDepth 100000
set_option maxHeartbeats 4000000
namespace Go.Proofs.YtmcinfbckdiaoaaGreatDoor.Lv
open Go Go.RowKit
theorem ref_RatMul {a b : Rat} (ha : qb 25000000 a) (hb : qb 25000000 b) : C E 115 [rqD a, rqD b] (rqD (a * b)) := by
  refine CG_intro Tryz.func115 rfl (by kernel_rfl) rfl (by kernel_rfl) (by kernel_rfl) rfl ?_
  have hd1 := ref_Den (ha.qs (by omega))
  have hd2 := ref_Den (hb.qs (by omega))
  obtain ⟨a1, a2⟩ := ha
  obtain ⟨b1, b2⟩ := hb
  have z1 := zb_mul a.num b.num
  have z2 := nb_mul a.den b.den
  have hM := ref_MulInt (a := a.num) (b := b.num) (by omega) (by omega)
  have hN := ref_MulNat (a := a.den) (b := b.den) (by omega) (by omega)
  have hne : a.den * b.den ≠ 0 := Nat.mul_ne_zero (Nat.pos_iff_ne_zero.1 a.den_pos) (Nat.pos_iff_ne_zero.1 b.den_pos)
  have hP := ref_pos (a.den * b.den)
  have hR := ref_RatNew (n := a.num * b.num) hne (by omega) (by omega)
  rw [← Rat.mul_def'] at hR
  simp (maxSteps := 3000000) (disch := first | exact trivial | assumption | omega | exact rOk | exact rCl | exact rNo) only [go_sem, seval]
  refine callCl hM ?_ rfl ?_
  · simp (maxSteps := 3000000) (disch := first | exact trivial | assumption | omega | exact rOk | exact rCl | exact rNo) only [go_sem, seval]
    try exact LesV.refl _
  simp (maxSteps := 3000000) (disch := first | exact trivial | assumption | omega | exact rOk | exact rCl | exact rNo) only [go_sem, seval]
  refine callCl hd1 ?_ rfl ?_
  · simp (maxSteps := 3000000) (disch := first | exact trivial | assumption | omega | exact rOk | exact rCl | exact rNo) only [go_sem, seval]
    try exact LesV.refl _
  simp (maxSteps := 3000000) (disch := first | exact trivial | assumption | omega | exact rOk | exact rCl | exact rNo) only [go_sem, seval]
  refine callCl hd2 ?_ rfl ?_
  · simp (maxSteps := 3000000) (disch := first | exact trivial | assumption | omega | exact rOk | exact rCl | exact rNo) only [go_sem, seval]
    try exact LesV.refl _
  simp (maxSteps := 3000000) (disch := first | exact trivial | assumption | omega | exact rOk | exact rCl | exact rNo) only [go_sem, seval]
  refine callCl hN ?_ rfl ?_
  · simp (maxSteps := 3000000) (disch := first | exact trivial | assumption | omega | exact rOk | exact rCl | exact rNo) only [go_sem, seval]
    try exact LesV.refl _
  simp (maxSteps := 3000000) (disch := first | exact trivial | assumption | omega | exact rOk | exact rCl | exact rNo) only [go_sem, seval]
  refine callCl hP ?_ rfl ?_
  · simp (maxSteps := 3000000) (disch := first | exact trivial | assumption | omega | exact rOk | exact rCl | exact rNo) only [go_sem, seval]
    try exact LesV.refl _
  simp (maxSteps := 3000000) (disch := first | exact trivial | assumption | omega | exact rOk | exact rCl | exact rNo) only [go_sem, seval]
  refine callCl hR ?_ rfl ?_
  · simp (maxSteps := 3000000) (disch := first | exact trivial | assumption | omega | exact rOk | exact rCl | exact rNo) only [go_sem, seval]
    try exact LesV.refl _
  simp (maxSteps := 3000000) (disch := first | exact trivial | assumption | omega | exact rOk | exact rCl | exact rNo) only [go_sem, seval]
  try exact LeV.refl _
theorem ref_RatAdd {a b : Rat} (ha : qb 12000000 a) (hb : qb 12000000 b) : C E 73 [rqD a, rqD b] (rqD (a + b)) := by
  refine CG_intro Tryz.func73 rfl (by kernel_rfl) rfl (by kernel_rfl) (by kernel_rfl) rfl ?_
  have hd1 := ref_Den (ha.qs (by omega))
  have hd2 := ref_Den (hb.qs (by omega))
  obtain ⟨a1, a2⟩ := ha
  obtain ⟨b1, b2⟩ := hb
  have e1 : zb (b.den : Int) = nb b.den := rfl
  have e2 : zb (a.den : Int) = nb a.den := rfl
  have z1 := zb_mul a.num b.den
  have z2 := zb_mul b.num a.den
  have z3 := zb_add (a.num * b.den) (b.num * a.den)
  have z4 := nb_mul a.den b.den
  have p1 := ref_pos b.den
  have p2 := ref_pos a.den
  have m1 := ref_MulInt (a := a.num) (b := b.den) (by omega) (by omega)
  have m2 := ref_MulInt (a := b.num) (b := a.den) (by omega) (by omega)
  have hA := ref_AddInt (a := a.num * b.den) (b := b.num * a.den) (by omega) (by omega)
  have hN := ref_MulNat (a := a.den) (b := b.den) (by omega) (by omega)
  have hne : a.den * b.den ≠ 0 := Nat.mul_ne_zero (Nat.pos_iff_ne_zero.1 a.den_pos) (Nat.pos_iff_ne_zero.1 b.den_pos)
  have hP := ref_pos (a.den * b.den)
  have hR := ref_RatNew (n := a.num * b.den + b.num * a.den) hne (by omega) (by omega)
  rw [← Rat.add_def'] at hR
  simp (maxSteps := 3000000) (disch := first | exact trivial | assumption | omega | exact rOk | exact rCl | exact rNo) only [go_sem, seval]
  refine callCl hd2 ?_ rfl ?_
  · simp (maxSteps := 3000000) (disch := first | exact trivial | assumption | omega | exact rOk | exact rCl | exact rNo) only [go_sem, seval]
    try exact LesV.refl _
  simp (maxSteps := 3000000) (disch := first | exact trivial | assumption | omega | exact rOk | exact rCl | exact rNo) only [go_sem, seval]
  refine callCl p1 ?_ rfl ?_
  · simp (maxSteps := 3000000) (disch := first | exact trivial | assumption | omega | exact rOk | exact rCl | exact rNo) only [go_sem, seval]
    try exact LesV.refl _
  simp (maxSteps := 3000000) (disch := first | exact trivial | assumption | omega | exact rOk | exact rCl | exact rNo) only [go_sem, seval]
  refine callCl m1 ?_ rfl ?_
  · simp (maxSteps := 3000000) (disch := first | exact trivial | assumption | omega | exact rOk | exact rCl | exact rNo) only [go_sem, seval]
    try exact LesV.refl _
  simp (maxSteps := 3000000) (disch := first | exact trivial | assumption | omega | exact rOk | exact rCl | exact rNo) only [go_sem, seval]
  refine callCl hd1 ?_ rfl ?_
  · simp (maxSteps := 3000000) (disch := first | exact trivial | assumption | omega | exact rOk | exact rCl | exact rNo) only [go_sem, seval]
    try exact LesV.refl _
  simp (maxSteps := 3000000) (disch := first | exact trivial | assumption | omega | exact rOk | exact rCl | exact rNo) only [go_sem, seval]
  refine callCl p2 ?_ rfl ?_
  · simp (maxSteps := 3000000) (disch := first | exact trivial | assumption | omega | exact rOk | exact rCl | exact rNo) only [go_sem, seval]
    try exact LesV.refl _
  simp (maxSteps := 3000000) (disch := first | exact trivial | assumption | omega | exact rOk | exact rCl | exact rNo) only [go_sem, seval]
  refine callCl m2 ?_ rfl ?_
  · simp (maxSteps := 3000000) (disch := first | exact trivial | assumption | omega | exact rOk | exact rCl | exact rNo) only [go_sem, seval]
    try exact LesV.refl _
  simp (maxSteps := 3000000) (disch := first | exact trivial | assumption | omega | exact rOk | exact rCl | exact rNo) only [go_sem, seval]
  refine callCl hA ?_ rfl ?_
  · simp (maxSteps := 3000000) (disch := first | exact trivial | assumption | omega | exact rOk | exact rCl | exact rNo) only [go_sem, seval]
    try exact LesV.refl _
  simp (maxSteps := 3000000) (disch := first | exact trivial | assumption | omega | exact rOk | exact rCl | exact rNo) only [go_sem, seval]
  refine callCl hd1 ?_ rfl ?_
  · simp (maxSteps := 3000000) (disch := first | exact trivial | assumption | omega | exact rOk | exact rCl | exact rNo) only [go_sem, seval]
    try exact LesV.refl _
  simp (maxSteps := 3000000) (disch := first | exact trivial | assumption | omega | exact rOk | exact rCl | exact rNo) only [go_sem, seval]
  refine callCl hd2 ?_ rfl ?_
  · simp (maxSteps := 3000000) (disch := first | exact trivial | assumption | omega | exact rOk | exact rCl | exact rNo) only [go_sem, seval]
    try exact LesV.refl _
  simp (maxSteps := 3000000) (disch := first | exact trivial | assumption | omega | exact rOk | exact rCl | exact rNo) only [go_sem, seval]
  refine callCl hN ?_ rfl ?_
  · simp (maxSteps := 3000000) (disch := first | exact trivial | assumption | omega | exact rOk | exact rCl | exact rNo) only [go_sem, seval]
    try exact LesV.refl _
  simp (maxSteps := 3000000) (disch := first | exact trivial | assumption | omega | exact rOk | exact rCl | exact rNo) only [go_sem, seval]
  refine callCl hP ?_ rfl ?_
  · simp (maxSteps := 3000000) (disch := first | exact trivial | assumption | omega | exact rOk | exact rCl | exact rNo) only [go_sem, seval]
    try exact LesV.refl _
  simp (maxSteps := 3000000) (disch := first | exact trivial | assumption | omega | exact rOk | exact rCl | exact rNo) only [go_sem, seval]
  refine callCl hR ?_ rfl ?_
  · simp (maxSteps := 3000000) (disch := first | exact trivial | assumption | omega | exact rOk | exact rCl | exact rNo) only [go_sem, seval]
    try exact LesV.refl _
  simp (maxSteps := 3000000) (disch := first | exact trivial | assumption | omega | exact rOk | exact rCl | exact rNo) only [go_sem, seval]
  try exact LeV.refl _
end Go.Proofs.YtmcinfbckdiaoaaGreatDoor.Lv

set_option linter.unusedVariables false
set_option linter.unusedSimpArgs false
set_option maxRecDepth 100000
set_option maxHeartbeats 4000000
namespace Go.Proofs.YtmcinfbckdiaoaaGreatDoor.Lv
open Go Go.RowKit
theorem ref_IntOf {v : Nat} (h : v < 1073741824) : C E 116 [.int .i64 v] (iD (v : Int)) := by
  refine CG_intro Tryz.func116 rfl (by kernel_rfl) rfl (by kernel_rfl) (by kernel_rfl) rfl ?_
  have hO := ref_NatOf (v := v) (by omega)
  rw [iD_nat]
  simp (maxSteps := 3000000) (disch := first | exact trivial | assumption | omega | exact rOk | exact rCl | exact rNo) only [go_sem, seval]
  refine callC hO ?_ rfl ?_
  · simp (maxSteps := 3000000) (disch := first | exact trivial | assumption | omega | exact rOk | exact rCl | exact rNo) only [go_sem, seval]
    try exact LesV.refl _
  simp (maxSteps := 3000000) (disch := first | exact trivial | assumption | omega | exact rOk | exact rCl | exact rNo) only [go_sem, seval]
  try exact LeV.refl _
theorem ref_Half {a : Rat} (ha : qb 24000000 a) : C E 72 [rqD a] (rqD (a / ((2 : Int) : Rat))) := by
  refine CG_intro Tryz.func72 rfl (by kernel_rfl) rfl (by kernel_rfl) (by kernel_rfl) rfl ?_
  have h2 : qb 25000000 ((2 : Int) : Rat)⁻¹ := by
    refine qb_inv ?_ (by decide)
    have a1 : nb 2 ≤ 1 := nb_lt.2 (by omega)
    have a2 : nb 1 ≤ 1 := nb_lt.2 (by omega)
    exact ⟨by show nb 2 ≤ _; omega, by show nb 1 ≤ _; omega⟩
  have hM := ref_RatMul (ha.mono (k := 25000000) (by omega)) h2
  have e2 : rqD ((2 : Int) : Rat)⁻¹ = .agg [.bool false, nD 1, nD 2] := by
    have n1 : ((2 : Int) : Rat)⁻¹.num = 1 := by decide +kernel
    have n2 : ((2 : Int) : Rat)⁻¹.den = 2 := by decide +kernel
    rw [rqD, n1, n2]; rfl
  have hI := ref_IntOf (v := 1) (by omega)
  rw [iD_nat] at hI
  have hO := ref_NatOf (v := 2) (by omega)
  rw [← Rat.div_def, e2] at hM
  simp (maxSteps := 3000000) (disch := first | exact trivial | assumption | omega | exact rOk | exact rCl | exact rNo) only [go_sem, seval]
  refine callCl hI ?_ rfl ?_
  · simp (maxSteps := 3000000) (disch := first | exact trivial | assumption | omega | exact rOk | exact rCl | exact rNo) only [go_sem, seval]
    try exact LesV.refl _
  simp (maxSteps := 3000000) (disch := first | exact trivial | assumption | omega | exact rOk | exact rCl | exact rNo) only [go_sem, seval]
  refine callCl hO ?_ rfl ?_
  · simp (maxSteps := 3000000) (disch := first | exact trivial | assumption | omega | exact rOk | exact rCl | exact rNo) only [go_sem, seval]
    try exact LesV.refl _
  simp (maxSteps := 3000000) (disch := first | exact trivial | assumption | omega | exact rOk | exact rCl | exact rNo) only [go_sem, seval]
  refine callCl hM ?_ rfl ?_
  · simp (maxSteps := 3000000) (disch := first | exact trivial | assumption | omega | exact rOk | exact rCl | exact rNo) only [go_sem, seval]
    try exact LesV.refl _
  simp (maxSteps := 3000000) (disch := first | exact trivial | assumption | omega | exact rOk | exact rCl | exact rNo) only [go_sem, seval]
  try exact LeV.refl _
theorem ref_Mid {p : Rat × Rat} (h1 : qb 11000000 p.1) (h2 : qb 11000000 p.2) : C E 38 [rsD p] (rqD (midQ p)) := by
  refine CG_intro Tryz.func38 rfl (by kernel_rfl) rfl (by kernel_rfl) (by kernel_rfl) rfl ?_
  have hA := ref_RatAdd (h1.mono (k := 12000000) (by omega)) (h2.mono (k := 12000000) (by omega))
  have hH := ref_Half ((qb_add h1 h2).mono (k := 24000000) (by omega))
  unfold midQ
  simp (maxSteps := 3000000) (disch := first | exact trivial | assumption | omega | exact rOk | exact rCl | exact rNo) only [go_sem, seval]
  refine callC hA ?_ rfl ?_
  · simp (maxSteps := 3000000) (disch := first | exact trivial | assumption | omega | exact rOk | exact rCl | exact rNo) only [go_sem, seval]
    try exact LesV.refl _
  simp (maxSteps := 3000000) (disch := first | exact trivial | assumption | omega | exact rOk | exact rCl | exact rNo) only [go_sem, seval]
  refine callC hH ?_ rfl ?_
  · simp (maxSteps := 3000000) (disch := first | exact trivial | assumption | omega | exact rOk | exact rCl | exact rNo) only [go_sem, seval]
    try exact LesV.refl _
  simp (maxSteps := 3000000) (disch := first | exact trivial | assumption | omega | exact rOk | exact rCl | exact rNo) only [go_sem, seval]
  try exact LeV.refl _
end Go.Proofs.YtmcinfbckdiaoaaGreatDoor.Lv

set_option linter.unusedVariables false
set_option linter.unusedSimpArgs false
set_option maxRecDepth 100000
set_option maxHeartbeats 4000000
namespace Go.Proofs.YtmcinfbckdiaoaaGreatDoor.Lv
open Go Go.RowKit
theorem ref_RatNeg {q : Rat} (hq : qs q) : C E 151 [rqD q] (rqD (-q)) := by
  refine CG_intro Tryz.func151 rfl (by kernel_rfl) rfl (by kernel_rfl) (by kernel_rfl) rfl ?_
  have hq1 := hq.1
  have hN := ref_NegInt (z := q.num) (by omega)
  have hD := ref_Den hq
  have e : rqD (-q) = .agg [.bool (decide (-q.num < 0)), nD (-q.num).natAbs, nD q.den] := rfl
  rw [e]
  simp (maxSteps := 3000000) (disch := first | exact trivial | assumption | omega | exact rOk | exact rCl | exact rNo) only [go_sem, seval]
  refine callCl hN ?_ rfl ?_
  · simp (maxSteps := 3000000) (disch := first | exact trivial | assumption | omega | exact rOk | exact rCl | exact rNo) only [go_sem, seval]
    try exact LesV.refl _
  simp (maxSteps := 3000000) (disch := first | exact trivial | assumption | omega | exact rOk | exact rCl | exact rNo) only [go_sem, seval]
  refine callCl hD ?_ rfl ?_
  · simp (maxSteps := 3000000) (disch := first | exact trivial | assumption | omega | exact rOk | exact rCl | exact rNo) only [go_sem, seval]
    try exact LesV.refl _
  simp (maxSteps := 3000000) (disch := first | exact trivial | assumption | omega | exact rOk | exact rCl | exact rNo) only [go_sem, seval]
  try exact LeV.refl _
theorem ref_RatSub {a b : Rat} (ha : qb 12000000 a) (hb : qb 12000000 b) : C E 108 [rqD a, rqD b] (rqD (a - b)) := by
  refine CG_intro Tryz.func108 rfl (by kernel_rfl) rfl (by kernel_rfl) (by kernel_rfl) rfl ?_
  have hA := ref_RatAdd ha (qb_neg hb)
  rw [← Rat.sub_eq_add_neg] at hA
  simp (maxSteps := 3000000) (disch := first | exact trivial | assumption | omega | exact rOk | exact rCl | exact rNo) only [go_sem, seval]
  refine callCl (ref_RatNeg (hb.qs (by omega))) ?_ rfl ?_
  · simp (maxSteps := 3000000) (disch := first | exact trivial | assumption | omega | exact rOk | exact rCl | exact rNo) only [go_sem, seval]
    try exact LesV.refl _
  simp (maxSteps := 3000000) (disch := first | exact trivial | assumption | omega | exact rOk | exact rCl | exact rNo) only [go_sem, seval]
  refine callCl hA ?_ rfl ?_
  · simp (maxSteps := 3000000) (disch := first | exact trivial | assumption | omega | exact rOk | exact rCl | exact rNo) only [go_sem, seval]
    try exact LesV.refl _
  simp (maxSteps := 3000000) (disch := first | exact trivial | assumption | omega | exact rOk | exact rCl | exact rNo) only [go_sem, seval]
  try exact LeV.refl _
theorem ref_Width {p : Rat × Rat} (h1 : qb 12000000 p.1) (h2 : qb 12000000 p.2) : C E 69 [rsD p] (rqD (wd p)) := by
  refine CG_intro Tryz.func69 rfl (by kernel_rfl) rfl (by kernel_rfl) (by kernel_rfl) rfl ?_
  have hS := ref_RatSub h2 h1
  simp (maxSteps := 3000000) (disch := first | exact trivial | assumption | omega | exact rOk | exact rCl | exact rNo) only [go_sem, seval]
  refine callC hS ?_ rfl ?_
  · simp (maxSteps := 3000000) (disch := first | exact trivial | assumption | omega | exact rOk | exact rCl | exact rNo) only [go_sem, seval]
    try exact LesV.refl _
  simp (maxSteps := 3000000) (disch := first | exact trivial | assumption | omega | exact rOk | exact rCl | exact rNo) only [go_sem, seval]
  try exact LeV.refl _
theorem ref_BoxRight {l : List (Rat × Rat)} (hq : ∀ p ∈ l, qs p.1 ∧ qs p.2) (hl : l.length < 1073741824) : C E 34 [rbD l] (.bool (rightB l)) := by
  refine CG_intro Tryz.func34 rfl (by kernel_rfl) rfl (by kernel_rfl) (by kernel_rfl) rfl ?_
  by_cases h1 : 1 ≤ l.length
  case neg =>
    have e : rightB l = false := by unfold rightB; rw [decide_eq_false h1, Bool.and_false, Bool.false_and]
    rw [e]
    simp (maxSteps := 3000000) (disch := first | exact trivial | assumption | omega | exact rOk | exact rCl | exact rNo) only [go_sem, seval, rbD]
  by_cases h3 : l.length ≤ 3
  case neg =>
    have e : rightB l = false := by unfold rightB; rw [decide_eq_false h3, Bool.and_false]
    rw [e]
    simp (maxSteps := 3000000) (disch := first | exact trivial | assumption | omega | exact rOk | exact rCl | exact rNo) only [go_sem, seval, rbD]
  have er : rightB l = l.all fun p => decide (p.1 < p.2) := by unfold rightB; rw [decide_eq_true h1, decide_eq_true h3, Bool.and_true, Bool.and_true]
  rw [er]
  simp (maxSteps := 3000000) (disch := first | exact trivial | assumption | omega | exact rOk | exact rCl | exact rNo) only [go_sem, seval, rbD]
  refine AL.of (fun i : Nat => i ≤ l.length ∧ ∀ j, j < i → (l.getD j (0, 0)).1 < (l.getD j (0, 0)).2) (fun i => l.length - i) (fun i => [(0, rbD l), (3, .int .i64 i)]) (fun _ => []) 0 ⟨Nat.zero_le _, fun j hj => by omega⟩ ?_ ?_ ?_ ?_
  · simp (maxSteps := 3000000) (disch := first | exact trivial | assumption | omega | exact rOk | exact rCl | exact rNo) only [go_sem, seval, rbD]
    try exact LeV.refl _
  · simp (maxSteps := 3000000) (disch := first | exact trivial | assumption | omega | exact rOk | exact rCl | exact rNo) only [go_sem, seval]
  · intro x _; simp (maxSteps := 3000000) (disch := first | exact trivial | assumption | omega | exact rOk | exact rCl | exact rNo) only [go_sem, seval]
  rintro i ⟨hi, hall⟩
  by_cases hil : i = l.length
  · subst hil
    have ha : (l.all fun p => decide (p.1 < p.2)) = true := List.all_eq_true.2 fun p hp => by
      obtain ⟨j, hj, rfl⟩ := List.getElem_of_mem hp
      have := hall j hj
      rw [List.getD_eq_getElem?_getD, List.getElem?_eq_getElem hj] at this
      exact decide_eq_true this
    rw [ha]
    simp (maxSteps := 3000000) (disch := first | exact trivial | assumption | omega | exact rOk | exact rCl | exact rNo) only [go_sem, seval, rbD]
  · have hil' : i < l.length := by omega
    have hmem : l.getD i (0, 0) ∈ l := by
      rw [List.getD_eq_getElem?_getD, List.getElem?_eq_getElem hil']; exact List.getElem_mem hil'
    obtain ⟨s1, s2⟩ := hq _ hmem
    have hge := sgQ_ge (l.getD i (0, 0)).1 (l.getD i (0, 0)).2
    have hp : rsR l i = rsD (l.getD i (0, 0)) := rfl
    generalize hpp : l.getD i (0, 0) = p at *
    have hc := ref_RatCmp s1 s2
    simp (maxSteps := 3000000) (disch := first | exact trivial | assumption | omega | exact rOk | exact rCl | exact rNo) only [go_sem, seval, rbD, hp]
    refine callCl hc ?_ rfl ?_
    · simp (maxSteps := 3000000) (disch := first | exact trivial | assumption | omega | exact rOk | exact rCl | exact rNo) only [go_sem, seval]
      try exact LesV.refl _
    by_cases hle : p.2 ≤ p.1
    · rw [decide_eq_true hle] at hge
      have ha : (l.all fun p => decide (p.1 < p.2)) = false := by
        rw [Bool.eq_false_iff]
        intro h
        have := of_decide_eq_true (List.all_eq_true.1 h p hmem)
        grind
      rw [ha]
      simp (maxSteps := 3000000) (disch := first | exact trivial | assumption | omega | exact rOk | exact rCl | exact rNo) only [go_sem, seval, rbD, hge]
    · rw [decide_eq_false hle] at hge
      simp (maxSteps := 3000000) (disch := first | exact trivial | assumption | omega | exact rOk | exact rCl | exact rNo) only [go_sem, seval, rbD, hge]
      refine ⟨i + 1, ⟨hil', fun j hj => ?_⟩, by show l.length - (i + 1) < l.length - i; omega, ?_, ?_⟩
      · by_cases hji : j = i
        · subst hji; rw [hpp]; grind
        · exact hall j (by omega)
      · simp (maxSteps := 3000000) (disch := first | exact trivial | assumption | omega | exact rOk | exact rCl | exact rNo) only [go_sem, seval, rbD]
        try exact LeV_int (by omega)
      · simp (maxSteps := 3000000) (disch := first | exact trivial | assumption | omega | exact rOk | exact rCl | exact rNo) only [go_sem, seval]
end Go.Proofs.YtmcinfbckdiaoaaGreatDoor.Lv

set_option linter.unusedVariables false
set_option linter.unusedSimpArgs false
set_option maxRecDepth 100000
set_option maxHeartbeats 4000000
namespace Go.Proofs.YtmcinfbckdiaoaaGreatDoor.Lv
open Go Go.RowKit
theorem ref_Widest_no {l : List (Rat × Rat)} (hq : ∀ p ∈ l, qs p.1 ∧ qs p.2) (hl : l.length < 1073741824) (hr : rightB l = false) : C E 36 [rbD l] (.int .i64 (-1)) := by
  refine CG_intro Tryz.func36 rfl (by kernel_rfl) rfl (by kernel_rfl) (by kernel_rfl) rfl ?_
  have hR := ref_BoxRight hq hl
  rw [hr] at hR
  simp (maxSteps := 3000000) (disch := first | exact trivial | assumption | omega | exact rOk | exact rCl | exact rNo) only [go_sem, seval]
  refine callC hR ?_ rfl ?_
  · simp (maxSteps := 3000000) (disch := first | exact trivial | assumption | omega | exact rOk | exact rCl | exact rNo) only [go_sem, seval]
    try exact LesV.refl _
  simp (maxSteps := 3000000) (disch := first | exact trivial | assumption | omega | exact rOk | exact rCl | exact rNo) only [go_sem, seval]
/-- An interval's texts of at most 60 signs, the program's and the document's. -/
def ofOk (lo hi : Txt) : Prop := (spR lo hi).2 = 0 ∧ lo.length ≤ 60 ∧ hi.length ≤ 60
theorem law5_Of_yes {lo hi : Txt} (h : ofOk lo hi) : C E 68 [.agg [.str lo, .str hi]] (.tup [sD (spR lo hi).1, rsD (spR lo hi).1, .bool true]) := by
  refine CG_intro Tryz.func68 rfl (by kernel_rfl) rfl (by kernel_rfl) (by kernel_rfl) rfl ?_
  obtain ⟨h0, hl, hh⟩ := h
  have h1 := ref_SpanParse lo hi (by omega) (by omega)
  have h2 := span_Parse lo hi (by omega) (by omega)
  have e : rspD (spR lo hi) = .tup [rsD (spR lo hi).1, .int .i64 0] := by unfold rspD; rw [if_pos h0, h0]
  rw [e] at h1
  rw [h0] at h2
  generalize (spR lo hi).1 = p at *
  simp (maxSteps := 3000000) (disch := first | exact trivial | assumption | omega | exact rOk | exact rCl | exact rNo) only [go_sem, seval]
  refine callC h1 ?_ rfl ?_
  · simp (maxSteps := 3000000) (disch := first | exact trivial | assumption | omega | exact rOk | exact rCl | exact rNo) only [go_sem, seval]
    try exact LesV.refl _
  simp (maxSteps := 3000000) (disch := first | exact trivial | assumption | omega | exact rOk | exact rCl | exact rNo) only [go_sem, seval]
  refine callC h2 ?_ rfl ?_
  · simp (maxSteps := 3000000) (disch := first | exact trivial | assumption | omega | exact rOk | exact rCl | exact rNo) only [go_sem, seval]
    try exact LesV.refl _
  simp (maxSteps := 3000000) (disch := first | exact trivial | assumption | omega | exact rOk | exact rCl | exact rNo) only [go_sem, seval]
  refine AReg_anyL 5 [0, 1, 2, 3, 4] rfl rfl (by decide +kernel) ?_
  refine AAny_free 0 [1, 2, 3, 4] (by decide +kernel) rfl ?_
  refine AI_at _ rfl ?_
  simp (maxSteps := 3000000) (disch := first | exact trivial | assumption | omega | exact rOk | exact rCl | exact rNo) only [go_sem, seval]
  refine AAny_step [(1, [2, 3, 4]), (2, [1, 3, 4])] (by decide +kernel) rfl ?_
  refine forall_more ?_ ?_
  · refine AI_at _ rfl ?_
    simp (maxSteps := 3000000) (disch := first | exact trivial | assumption | omega | exact rOk | exact rCl | exact rNo) only [go_sem, seval]
    refine AAny_free 2 [3, 4] (by decide +kernel) rfl ?_
    refine AI_at _ rfl ?_
    simp (maxSteps := 3000000) (disch := first | exact trivial | assumption | omega | exact rOk | exact rCl | exact rNo) only [go_sem, seval]
    refine AAny_free 3 [4] (by decide +kernel) rfl ?_
    refine AI_at _ rfl ?_
    simp (maxSteps := 3000000) (disch := first | exact trivial | assumption | omega | exact rOk | exact rCl | exact rNo) only [go_sem, seval]
    refine AAny_free 4 [] (by decide +kernel) rfl ?_
    refine AI_at _ rfl ?_
    simp (maxSteps := 3000000) (disch := first | exact trivial | assumption | omega | exact rOk | exact rCl | exact rNo) only [go_sem, seval]
    refine AAny_end ?_
    simp (maxSteps := 3000000) (disch := first | exact trivial | assumption | omega | exact rOk | exact rCl | exact rNo) only [go_sem, seval]
    try exact LeV.refl _
  refine forall_one ?_
  refine AI_at _ rfl ?_
  simp (maxSteps := 3000000) (disch := first | exact trivial | assumption | omega | exact rOk | exact rCl | exact rNo) only [go_sem, seval]
  refine AAny_free 1 [3, 4] (by decide +kernel) rfl ?_
  refine AI_at _ rfl ?_
  simp (maxSteps := 3000000) (disch := first | exact trivial | assumption | omega | exact rOk | exact rCl | exact rNo) only [go_sem, seval]
  refine AAny_free 3 [4] (by decide +kernel) rfl ?_
  refine AI_at _ rfl ?_
  simp (maxSteps := 3000000) (disch := first | exact trivial | assumption | omega | exact rOk | exact rCl | exact rNo) only [go_sem, seval]
  refine AAny_free 4 [] (by decide +kernel) rfl ?_
  refine AI_at _ rfl ?_
  simp (maxSteps := 3000000) (disch := first | exact trivial | assumption | omega | exact rOk | exact rCl | exact rNo) only [go_sem, seval]
  refine AAny_end ?_
  simp (maxSteps := 3000000) (disch := first | exact trivial | assumption | omega | exact rOk | exact rCl | exact rNo) only [go_sem, seval]
  try exact LeV.refl _
end Go.Proofs.YtmcinfbckdiaoaaGreatDoor.Lv

set_option linter.unusedVariables false
set_option linter.unusedSimpArgs false
set_option maxRecDepth 100000
set_option maxHeartbeats 4000000
namespace Go.Proofs.YtmcinfbckdiaoaaGreatDoor.Lv
open Go Go.RowKit
theorem ref_Widest {l : List (Rat × Rat)} (hq : ∀ p ∈ l, qb 12000000 p.1 ∧ qb 12000000 p.2) (hl : l.length < 1073741824) (hr : rightB l = true) : C E 36 [rbD l] (.int .i64 (widF l l.length)) := by
  refine CG_intro Tryz.func36 rfl (by kernel_rfl) rfl (by kernel_rfl) (by kernel_rfl) rfl ?_
  have hR := ref_BoxRight (fun p hp => ⟨(hq p hp).1.qs (by omega), (hq p hp).2.qs (by omega)⟩) hl
  rw [hr] at hR
  have h1 := (rightB_iff.1 hr).2.1
  have hw1 : widF l 1 = 0 := Nat.le_zero.1 (widF_lt l 0)
  simp (maxSteps := 3000000) (disch := first | exact trivial | assumption | omega | exact rOk | exact rCl | exact rNo) only [go_sem, seval]
  refine callC hR ?_ rfl ?_
  · simp (maxSteps := 3000000) (disch := first | exact trivial | assumption | omega | exact rOk | exact rCl | exact rNo) only [go_sem, seval]
    try exact LesV.refl _
  simp (maxSteps := 3000000) (disch := first | exact trivial | assumption | omega | exact rOk | exact rCl | exact rNo) only [go_sem, seval, rbD]
  refine AL.of (fun i : Nat => 1 ≤ i ∧ i ≤ l.length) (fun i => l.length - i) (fun i => [(0, rbD l), (3, .int .i64 (widF l i)), (4, .int .i64 i)]) (fun _ => []) 1 ⟨Nat.le_refl _, h1⟩ ?_ ?_ ?_ ?_
  · simp (maxSteps := 3000000) (disch := first | exact trivial | assumption | omega | exact rOk | exact rCl | exact rNo) only [go_sem, seval, rbD, hw1]
    try exact LeV.refl _
  · simp (maxSteps := 3000000) (disch := first | exact trivial | assumption | omega | exact rOk | exact rCl | exact rNo) only [go_sem, seval]
  · intro x _; simp (maxSteps := 3000000) (disch := first | exact trivial | assumption | omega | exact rOk | exact rCl | exact rNo) only [go_sem, seval]
  rintro i ⟨hi1, hi⟩
  by_cases hil : i = l.length
  · subst hil
    simp (maxSteps := 3000000) (disch := first | exact trivial | assumption | omega | exact rOk | exact rCl | exact rNo) only [go_sem, seval, rbD]
  · have hil' : i < l.length := by omega
    have hm : ∀ j, j < l.length → l.getD j (0, 0) ∈ l := fun j hj => by
      rw [List.getD_eq_getElem?_getD, List.getElem?_eq_getElem hj]; exact List.getElem_mem hj
    have hwl : widF l i < l.length := by have := widF_le l i; omega
    have hp : rsR l i = rsD (l.getD i (0, 0)) := rfl
    have hpw : rsR l (widF l i) = rsD (l.getD (widF l i) (0, 0)) := rfl
    have ew : ((widF l i : Nat) : Int).toNat = widF l i := by omega
    have hnx : widF l (i + 1) = if wd (l.getD (widF l i) (0, 0)) < wd (l.getD i (0, 0)) then i else widF l i := rfl
    obtain ⟨s1, s2⟩ := hq _ (hm i hil')
    obtain ⟨s3, s4⟩ := hq _ (hm _ hwl)
    have hg := sgQ_gt (wd (l.getD i (0, 0))) (wd (l.getD (widF l i) (0, 0)))
    generalize l.getD i (0, 0) = p at *
    generalize l.getD (widF l i) (0, 0) = q at *
    have w1 := wd_qb s1 s2
    have w2 := wd_qb s3 s4
    have hc := ref_RatCmp (w1.qs (by omega)) (w2.qs (by omega))
    have u1 := ref_Width s1 s2
    have u2 := ref_Width s3 s4
    simp (maxSteps := 3000000) (disch := first | exact trivial | assumption | omega | exact rOk | exact rCl | exact rNo) only [go_sem, seval, rbD, hp, hpw, ew]
    refine callCl u1 ?_ rfl ?_
    · simp (maxSteps := 3000000) (disch := first | exact trivial | assumption | omega | exact rOk | exact rCl | exact rNo) only [go_sem, seval]
      try exact LesV.refl _
    simp (maxSteps := 3000000) (disch := first | exact trivial | assumption | omega | exact rOk | exact rCl | exact rNo) only [go_sem, seval, rbD, hp, hpw, ew]
    refine callCl u2 ?_ rfl ?_
    · simp (maxSteps := 3000000) (disch := first | exact trivial | assumption | omega | exact rOk | exact rCl | exact rNo) only [go_sem, seval]
      try exact LesV.refl _
    simp (maxSteps := 3000000) (disch := first | exact trivial | assumption | omega | exact rOk | exact rCl | exact rNo) only [go_sem, seval, rbD, hp, hpw, ew]
    refine callCl hc ?_ rfl ?_
    · simp (maxSteps := 3000000) (disch := first | exact trivial | assumption | omega | exact rOk | exact rCl | exact rNo) only [go_sem, seval]
      try exact LesV.refl _
    by_cases h : wd q < wd p
    · rw [decide_eq_true h] at hg
      rw [if_pos h] at hnx
      simp (maxSteps := 3000000) (disch := first | exact trivial | assumption | omega | exact rOk | exact rCl | exact rNo) only [go_sem, seval, rbD, hg]
      refine ⟨i + 1, ⟨by omega, hil'⟩, by show l.length - (i + 1) < l.length - i; omega, ?_, ?_⟩
      · simp (maxSteps := 3000000) (disch := first | exact trivial | assumption | omega | exact rOk | exact rCl | exact rNo) only [go_sem, seval, rbD, hnx]
        try exact LeV_int (by omega)
      · simp (maxSteps := 3000000) (disch := first | exact trivial | assumption | omega | exact rOk | exact rCl | exact rNo) only [go_sem, seval]
    · rw [decide_eq_false h] at hg
      rw [if_neg h] at hnx
      simp (maxSteps := 3000000) (disch := first | exact trivial | assumption | omega | exact rOk | exact rCl | exact rNo) only [go_sem, seval, rbD, hg]
      refine ⟨i + 1, ⟨by omega, hil'⟩, by show l.length - (i + 1) < l.length - i; omega, ?_, ?_⟩
      · simp (maxSteps := 3000000) (disch := first | exact trivial | assumption | omega | exact rOk | exact rCl | exact rNo) only [go_sem, seval, rbD, hnx]
        try exact LeV_int (by omega)
      · simp (maxSteps := 3000000) (disch := first | exact trivial | assumption | omega | exact rOk | exact rCl | exact rNo) only [go_sem, seval]
end Go.Proofs.YtmcinfbckdiaoaaGreatDoor.Lv

set_option linter.unusedVariables false
set_option linter.unusedSimpArgs false
set_option maxRecDepth 100000
set_option maxHeartbeats 4000000
namespace Go.Proofs.YtmcinfbckdiaoaaGreatDoor.Lv
open Go Go.RowKit
theorem law5_Of_no {lo hi : Txt} (h : ¬ ofOk lo hi) (hl : lo.length < 9223372036854775808) (hh : hi.length < 9223372036854775808) : C E 68 [.agg [.str lo, .str hi]] (.tup [sD (0, 0), rs0, .bool false]) := by
  refine CG_intro Tryz.func68 rfl (by kernel_rfl) rfl (by kernel_rfl) (by kernel_rfl) rfl ?_
  have h1 := ref_SpanParse lo hi hl hh
  by_cases h0 : (spR lo hi).2 = 0
  · have e : rspD (spR lo hi) = .tup [rsD (spR lo hi).1, .int .i64 0] := by unfold rspD; rw [if_pos h0, h0]
    rw [e] at h1
    by_cases h60 : lo.length ≤ 60
    · have h61 : ¬ hi.length ≤ 60 := fun h' => h ⟨h0, h60, h'⟩
      generalize (spR lo hi).1 = p at *
      clear h0 e h
      simp (maxSteps := 3000000) (disch := first | exact trivial | assumption | omega | exact rOk | exact rCl | exact rNo) only [go_sem, seval]
      refine callC h1 ?_ rfl ?_
      · simp (maxSteps := 3000000) (disch := first | exact trivial | assumption | omega | exact rOk | exact rCl | exact rNo) only [go_sem, seval]
        try exact LesV.refl _
      simp (maxSteps := 3000000) (disch := first | exact trivial | assumption | omega | exact rOk | exact rCl | exact rNo) only [go_sem, seval]
      exact LeV.tup (LesV.cons LeV_s0 (LesV.cons LeV_rs0 (LesV.refl _)))
    · generalize (spR lo hi).1 = p at *
      clear h0 e h
      simp (maxSteps := 3000000) (disch := first | exact trivial | assumption | omega | exact rOk | exact rCl | exact rNo) only [go_sem, seval]
      refine callC h1 ?_ rfl ?_
      · simp (maxSteps := 3000000) (disch := first | exact trivial | assumption | omega | exact rOk | exact rCl | exact rNo) only [go_sem, seval]
        try exact LesV.refl _
      simp (maxSteps := 3000000) (disch := first | exact trivial | assumption | omega | exact rOk | exact rCl | exact rNo) only [go_sem, seval]
      exact LeV.tup (LesV.cons LeV_s0 (LesV.cons LeV_rs0 (LesV.refl _)))
  · have e : rspD (spR lo hi) = .tup [rs0, .int .i64 (spR lo hi).2] := by unfold rspD; rw [if_neg h0]
    rw [e] at h1
    have hne1 : ((spR lo hi).2 == 0) = false := beq_eq_false_iff_ne.2 h0
    have hne2 : ((spR lo hi).2 != 0) = true := by rw [bne, hne1]; rfl
    generalize (spR lo hi).2 = c at *
    clear h e
    simp (maxSteps := 3000000) (disch := first | exact trivial | assumption | omega | exact rOk | exact rCl | exact rNo) only [go_sem, seval]
    refine callC h1 ?_ rfl ?_
    · simp (maxSteps := 3000000) (disch := first | exact trivial | assumption | omega | exact rOk | exact rCl | exact rNo) only [go_sem, seval]
      try exact LesV.refl _
    simp (maxSteps := 3000000) (disch := first | exact trivial | assumption | omega | exact rOk | exact rCl | exact rNo) only [go_sem, seval, hne1, hne2]
    exact LeV.tup (LesV.cons LeV_s0 (LesV.cons LeV_rs0 (LesV.refl _)))
/-- Any sides: those that are intervals. -/
def ofO (p : Txt × Txt) : Option (Rat × Rat) := if (spR p.1 p.2).2 = 0 ∧ p.1.length ≤ 60 ∧ p.2.length ≤ 60 then some (spR p.1 p.2).1 else none
def rawL (l : List (Txt × Txt)) : List (Rat × Rat) := (l.take 5).filterMap ofO
theorem rawL_len (l : List (Txt × Txt)) : (rawL l).length ≤ 5 := by
  unfold rawL
  refine Nat.le_trans (List.length_filterMap_le _ _) ?_
  rw [List.length_take]; omega
theorem rawL_qb (l : List (Txt × Txt)) : ∀ p ∈ rawL l, qb 4001 p.1 ∧ qb 4001 p.2 := by
  intro p hp
  unfold rawL at hp
  obtain ⟨a, _, ha⟩ := List.mem_filterMap.1 hp
  unfold ofO at ha
  split at ha
  · cases ha
    exact ⟨(spR_qb _ _).1, (spR_qb _ _).2.1⟩
  · cases ha
/-- So many are seen. -/
def RwP (l : List (Txt × Txt)) (s : Nat × List (Rat × Rat)) : Prop := s.1 ≤ l.length ∧ s.1 ≤ 5 ∧ s.2 = (l.take s.1).filterMap ofO
theorem law6_Raw {l : List (Txt × Txt)} (ht : ∀ p ∈ l, p.1.length < 9223372036854775808 ∧ p.2.length < 9223372036854775808) : C E 33 [txD l] (.tup [bxD (rawL l), rbD (rawL l)]) := by
  refine CG_intro Tryz.func33 rfl (by kernel_rfl) rfl (by kernel_rfl) (by kernel_rfl) rfl ?_
  simp (maxSteps := 3000000) (disch := first | exact trivial | assumption | omega | exact rOk | exact rCl | exact rNo) only [go_sem, seval, txD]
  refine AL.ofNN 4 5 true true 6 6 (fun _ => .unk) (fun _ => .unk) (RwP l) (fun s => 5 - s.1) (fun s => [(0, txD l), (4, .sl 0 s.2.length 0 s.2.length), (5, .sl 1 s.2.length 0 s.2.length), (6, .int .i64 s.1)]) (fun s => [(0, .row false s.2.length true 6 s.2.length (pR s.2)), (1, .row false s.2.length true 6 s.2.length (rsR s.2))]) (0, []) (by simp (maxSteps := 3000000) (disch := first | exact trivial | assumption | omega | exact rOk | exact rCl | exact rNo) only [go_sem, seval]) (by simp (maxSteps := 3000000) (disch := first | exact trivial | assumption | omega | exact rOk | exact rCl | exact rNo) only [go_sem, seval]) (by omega) ⟨Nat.zero_le _, Nat.zero_le _, rfl⟩ ?_ ?_ ?_ ?_
  · simp (maxSteps := 3000000) (disch := first | exact trivial | assumption | omega | exact rOk | exact rCl | exact rNo) only [go_sem, seval, txD, List.length_nil]
    try exact LeV.refl _
  · simp (maxSteps := 3000000) (disch := first | exact trivial | assumption | omega | exact rOk | exact rCl | exact rNo) only [go_sem, seval, List.length_nil]
    try exact ⟨fun j hj => absurd hj (by omega), fun j hj => absurd hj (by omega)⟩
  · intro x _; simp (maxSteps := 3000000) (disch := first | exact trivial | assumption | omega | exact rOk | exact rCl | exact rNo) only [go_sem, seval]
  rintro ⟨i, w⟩ ⟨hi, hi5, hw⟩
  simp only at hi hi5 hw
  have hwl : w.length ≤ 5 := by rw [hw]; exact Nat.le_trans (List.length_filterMap_le _ _) (by rw [List.length_take]; omega)
  by_cases hend : i = l.length ∨ i = 5
  · have hr : rawL l = w := by
      rw [hw]; unfold rawL
      rcases hend with h | h
      · rw [h, List.take_length, List.take_of_length_le (by omega)]
      · rw [h]
    rw [hr]
    clear hw
    rcases hend with h | h
    · subst h
      simp (maxSteps := 3000000) (disch := first | exact trivial | assumption | omega | exact rOk | exact rCl | exact rNo) only [go_sem, seval, txD, bxD, rbD]
      try exact LeV.refl _
    · subst h
      by_cases h5 : l.length = 5
      · simp (maxSteps := 3000000) (disch := first | exact trivial | assumption | omega | exact rOk | exact rCl | exact rNo) only [go_sem, seval, txD, bxD, rbD]
        try exact LeV.refl _
      · simp (maxSteps := 3000000) (disch := first | exact trivial | assumption | omega | exact rOk | exact rCl | exact rNo) only [go_sem, seval, txD, bxD, rbD]
        try exact LeV.refl _
  · have hil' : i < l.length := by omega
    have hi5' : i < 5 := by omega
    have hmem : l.getD i ([], []) ∈ l := by
      rw [List.getD_eq_getElem?_getD, List.getElem?_eq_getElem hil']; exact List.getElem_mem hil'
    obtain ⟨t1, t2⟩ := ht _ hmem
    have hp : txR l i = .agg [.str (l.getD i ([], [])).1, .str (l.getD i ([], [])).2] := rfl
    have hnx : (l.take (i + 1)).filterMap ofO = w ++ (ofO (l.getD i ([], []))).toList := by
      rw [List.take_add_one, List.getD_eq_getElem?_getD, List.getElem?_eq_getElem hil', hw, List.filterMap_append]
      simp only [Option.getD_some, Option.toList_some, List.filterMap_cons, List.filterMap_nil]
      cases ofO l[i] <;> rfl
    generalize l.getD i ([], []) = p at *
    by_cases ho : ofOk p.1 p.2
    · have hy := law5_Of_yes ho
      have e1 : ofO p = some (spR p.1 p.2).1 := by unfold ofO; exact if_pos ho
      rw [e1] at hnx
      generalize (spR p.1 p.2).1 = q at *
      clear hw
      simp (maxSteps := 3000000) (disch := first | exact trivial | assumption | omega | exact rOk | exact rCl | exact rNo) only [go_sem, seval, txD, hp]
      refine callC hy ?_ rfl ?_
      · simp (maxSteps := 3000000) (disch := first | exact trivial | assumption | omega | exact rOk | exact rCl | exact rNo) only [go_sem, seval]
        try exact LesV.refl _
      have hnx : (l.take (i + 1)).filterMap ofO = w ++ [q] := hnx
      have hnx := hnx.symm
      have hl1 : (w ++ [q]).length = w.length + 1 := by rw [List.length_append]; rfl
      simp (maxSteps := 3000000) (disch := first | exact trivial | assumption | omega | exact rOk | exact rCl | exact rNo) only [go_sem, seval, txD, hp]
      refine AReg_anyL 10 [0, 1, 2, 3, 4, 5, 6, 7, 8, 9] rfl rfl (by decide +kernel) ?_
      refine AAny_free 0 [1, 2, 3, 4, 5, 6, 7, 8, 9] (by decide +kernel) rfl ?_
      refine AI_at _ rfl ?_
      simp (maxSteps := 3000000) (disch := first | exact trivial | assumption | omega | exact rOk | exact rCl | exact rNo) only [go_sem, seval, txD]
      refine AAny_free 1 [2, 3, 4, 5, 6, 7, 8, 9] (by decide +kernel) rfl ?_
      refine AI_at _ rfl ?_
      simp (maxSteps := 3000000) (disch := first | exact trivial | assumption | omega | exact rOk | exact rCl | exact rNo) only [go_sem, seval, txD]
      refine AAny_free 4 [2, 3, 5, 6, 7, 8, 9] (by decide +kernel) rfl ?_
      refine AI_at _ rfl ?_
      simp (maxSteps := 3000000) (disch := first | exact trivial | assumption | omega | exact rOk | exact rCl | exact rNo) only [go_sem, seval, txD]
      refine AAny_stab 5 [2, 3, 6, 7, 8, 9] (by decide +kernel) rfl (by simp (maxSteps := 3000000) (disch := first | exact trivial | assumption | omega | exact rOk | exact rCl | exact rNo) only [go_sem, seval, txD, stab, isVarB, blks, blkss, Op.operands, Call.operands, List.toList_toArray, Array.toList_append, List.all_cons, List.all_nil, Option.isNone_none]) ?_
      refine AI_at _ rfl ?_
      simp (maxSteps := 3000000) (disch := first | exact trivial | assumption | omega | exact rOk | exact rCl | exact rNo) only [go_sem, seval, txD]
      refine AAny_step [(2, [3, 6, 7, 8, 9]), (6, [2, 3, 7, 8, 9])] (by decide +kernel) rfl ?_
      refine forall_more ?_ ?_
      · refine AI_at _ rfl ?_
        simp (maxSteps := 3000000) (disch := first | exact trivial | assumption | omega | exact rOk | exact rCl | exact rNo) only [go_sem, seval, txD]
        refine AAny_step [(3, [6, 7, 8, 9]), (6, [3, 7, 8, 9])] (by decide +kernel) rfl ?_
        refine forall_more ?_ ?_
        · refine AI_at _ rfl ?_
          simp (maxSteps := 3000000) (disch := first | exact trivial | assumption | omega | exact rOk | exact rCl | exact rNo) only [go_sem, seval, txD]
          refine ⟨.inl trivial, .inr trivial, by omega, by omega, ?_⟩
          refine AAny_free 6 [7, 8, 9] (by decide +kernel) rfl ?_
          refine AI_at _ rfl ?_
          simp (maxSteps := 3000000) (disch := first | exact trivial | assumption | omega | exact rOk | exact rCl | exact rNo) only [go_sem, seval, txD]
          refine AAny_free 7 [8, 9] (by decide +kernel) rfl ?_
          refine AI_at _ rfl ?_
          simp (maxSteps := 3000000) (disch := first | exact trivial | assumption | omega | exact rOk | exact rCl | exact rNo) only [go_sem, seval, txD]
          refine ⟨.inl trivial, .inr trivial, by omega, by omega, ?_⟩
          refine AAny_free 8 [9] (by decide +kernel) rfl ?_
          refine AI_at _ rfl ?_
          simp (maxSteps := 3000000) (disch := first | exact trivial | assumption | omega | exact rOk | exact rCl | exact rNo) only [go_sem, seval, txD]
          refine AAny_free 9 [] (by decide +kernel) rfl ?_
          refine AI_at _ rfl ?_
          simp (maxSteps := 3000000) (disch := first | exact trivial | assumption | omega | exact rOk | exact rCl | exact rNo) only [go_sem, seval, txD]
          refine AAny_end ?_
          refine ⟨(i + 1, w ++ [q]), ⟨hil', hi5', hnx⟩, by show 5 - (i + 1) < 5 - i; omega, ?_, ?_⟩
          · simp (maxSteps := 3000000) (disch := first | exact trivial | assumption | omega | exact rOk | exact rCl | exact rNo) only [go_sem, seval, txD, hl1]
            try exact LeV_int (by omega)
          · simp (maxSteps := 3000000) (disch := first | exact trivial | assumption | omega | exact rOk | exact rCl | exact rNo) only [go_sem, seval, hl1]
            exact ⟨fun j hj => Le.of_eq (pR_snoc rfl hj), fun j hj => Le.of_eq (rR_snoc rfl hj)⟩
        refine forall_one ?_
        refine AI_at _ rfl ?_
        simp (maxSteps := 3000000) (disch := first | exact trivial | assumption | omega | exact rOk | exact rCl | exact rNo) only [go_sem, seval, txD]
        refine AAny_free 3 [7, 8, 9] (by decide +kernel) rfl ?_
        refine AI_at _ rfl ?_
        simp (maxSteps := 3000000) (disch := first | exact trivial | assumption | omega | exact rOk | exact rCl | exact rNo) only [go_sem, seval, txD]
        refine ⟨.inl trivial, .inr trivial, by omega, by omega, ?_⟩
        refine AAny_free 7 [8, 9] (by decide +kernel) rfl ?_
        refine AI_at _ rfl ?_
        simp (maxSteps := 3000000) (disch := first | exact trivial | assumption | omega | exact rOk | exact rCl | exact rNo) only [go_sem, seval, txD]
        refine ⟨.inl trivial, .inr trivial, by omega, by omega, ?_⟩
        refine AAny_free 8 [9] (by decide +kernel) rfl ?_
        refine AI_at _ rfl ?_
        simp (maxSteps := 3000000) (disch := first | exact trivial | assumption | omega | exact rOk | exact rCl | exact rNo) only [go_sem, seval, txD]
        refine AAny_free 9 [] (by decide +kernel) rfl ?_
        refine AI_at _ rfl ?_
        simp (maxSteps := 3000000) (disch := first | exact trivial | assumption | omega | exact rOk | exact rCl | exact rNo) only [go_sem, seval, txD]
        refine AAny_end ?_
        refine ⟨(i + 1, w ++ [q]), ⟨hil', hi5', hnx⟩, by show 5 - (i + 1) < 5 - i; omega, ?_, ?_⟩
        · simp (maxSteps := 3000000) (disch := first | exact trivial | assumption | omega | exact rOk | exact rCl | exact rNo) only [go_sem, seval, txD, hl1]
          try exact LeV_int (by omega)
        · simp (maxSteps := 3000000) (disch := first | exact trivial | assumption | omega | exact rOk | exact rCl | exact rNo) only [go_sem, seval, hl1]
          exact ⟨fun j hj => Le.of_eq (pR_snoc rfl hj), fun j hj => Le.of_eq (rR_snoc rfl hj)⟩
      refine forall_one ?_
      refine AI_at _ rfl ?_
      simp (maxSteps := 3000000) (disch := first | exact trivial | assumption | omega | exact rOk | exact rCl | exact rNo) only [go_sem, seval, txD]
      refine AAny_free 2 [3, 7, 8, 9] (by decide +kernel) rfl ?_
      refine AI_at _ rfl ?_
      simp (maxSteps := 3000000) (disch := first | exact trivial | assumption | omega | exact rOk | exact rCl | exact rNo) only [go_sem, seval, txD]
      refine AAny_free 3 [7, 8, 9] (by decide +kernel) rfl ?_
      refine AI_at _ rfl ?_
      simp (maxSteps := 3000000) (disch := first | exact trivial | assumption | omega | exact rOk | exact rCl | exact rNo) only [go_sem, seval, txD]
      refine ⟨.inl trivial, .inr trivial, by omega, by omega, ?_⟩
      refine AAny_free 7 [8, 9] (by decide +kernel) rfl ?_
      refine AI_at _ rfl ?_
      simp (maxSteps := 3000000) (disch := first | exact trivial | assumption | omega | exact rOk | exact rCl | exact rNo) only [go_sem, seval, txD]
      refine ⟨.inl trivial, .inr trivial, by omega, by omega, ?_⟩
      refine AAny_free 8 [9] (by decide +kernel) rfl ?_
      refine AI_at _ rfl ?_
      simp (maxSteps := 3000000) (disch := first | exact trivial | assumption | omega | exact rOk | exact rCl | exact rNo) only [go_sem, seval, txD]
      refine AAny_free 9 [] (by decide +kernel) rfl ?_
      refine AI_at _ rfl ?_
      simp (maxSteps := 3000000) (disch := first | exact trivial | assumption | omega | exact rOk | exact rCl | exact rNo) only [go_sem, seval, txD]
      refine AAny_end ?_
      refine ⟨(i + 1, w ++ [q]), ⟨hil', hi5', hnx⟩, by show 5 - (i + 1) < 5 - i; omega, ?_, ?_⟩
      · simp (maxSteps := 3000000) (disch := first | exact trivial | assumption | omega | exact rOk | exact rCl | exact rNo) only [go_sem, seval, txD, hl1]
        try exact LeV_int (by omega)
      · simp (maxSteps := 3000000) (disch := first | exact trivial | assumption | omega | exact rOk | exact rCl | exact rNo) only [go_sem, seval, hl1]
        exact ⟨fun j hj => Le.of_eq (pR_snoc rfl hj), fun j hj => Le.of_eq (rR_snoc rfl hj)⟩
    · have hy := law5_Of_no ho t1 t2
      have e1 : ofO p = none := by unfold ofO; exact if_neg ho
      rw [e1] at hnx
      clear hw
      simp (maxSteps := 3000000) (disch := first | exact trivial | assumption | omega | exact rOk | exact rCl | exact rNo) only [go_sem, seval, txD, hp]
      refine callC hy ?_ rfl ?_
      · simp (maxSteps := 3000000) (disch := first | exact trivial | assumption | omega | exact rOk | exact rCl | exact rNo) only [go_sem, seval]
        try exact LesV.refl _
      have hnx : (l.take (i + 1)).filterMap ofO = w := hnx.trans (List.append_nil _)
      have hnx := hnx.symm
      simp (maxSteps := 3000000) (disch := first | exact trivial | assumption | omega | exact rOk | exact rCl | exact rNo) only [go_sem, seval, txD, hp]
      refine ⟨(i + 1, w), ⟨hil', hi5', hnx⟩, by show 5 - (i + 1) < 5 - i; omega, ?_, ?_⟩
      · simp (maxSteps := 3000000) (disch := first | exact trivial | assumption | omega | exact rOk | exact rCl | exact rNo) only [go_sem, seval, txD]
        try exact LeV_int (by omega)
      · simp (maxSteps := 3000000) (disch := first | exact trivial | assumption | omega | exact rOk | exact rCl | exact rNo) only [go_sem, seval]
        exact ⟨fun _ _ => trivial, fun _ _ => trivial⟩
end Go.Proofs.YtmcinfbckdiaoaaGreatDoor.Lv

set_option linter.unusedVariables false
set_option linter.unusedSimpArgs false
set_option maxRecDepth 100000
set_option maxHeartbeats 4000000
namespace Go.Proofs.YtmcinfbckdiaoaaGreatDoor.Lv
open Go Go.RowKit
/-- A row of numbers. -/
def qR (l : List Rat) : Nat → D := fun i => qD (l.getD i 0)
def qlD (l : List Rat) : D := .ro true 3 l.length (qR l)
section
variable (l : List Rat) (h : Hp) (ρ : Nat → Option Nat)
theorem cl_ql : cl (qlD l) = true := Eq.trans rfl rfl
theorem flat_ql : flat (qlD l) = false := Eq.trans rfl rfl
theorem imp_ql : imp ρ h (qlD l) = qlD l := Eq.trans rfl rfl
theorem refs_ql : refs ρ (qlD l) = [] := Eq.trans rfl rfl
theorem one_ql : one h (qlD l) = true := Eq.trans rfl rfl
end
attribute [go_sem] cl_ql flat_ql imp_ql refs_ql one_ql
theorem qR_snoc {w : List Rat} {d : Rat} {j n : Nat} (hn : w.length = n) (hj : j < n + 1) : (if j < n then qR w j else [qD d].getD (j - n) .unk) = qR (w ++ [d]) j := by
  unfold qR
  by_cases h : j < n
  · rw [if_pos h, List.getD_eq_getElem?_getD, List.getD_eq_getElem?_getD, List.getElem?_append_left (by omega)]
  · rw [if_neg h, List.getD_eq_getElem?_getD (l := w ++ [d]), List.getElem?_append_right (by omega), hn, show j - n = 0 by omega]
    rfl
theorem box_Mid_no {l : List (Rat × Rat)} (hq : ∀ p ∈ l, qs p.1 ∧ qs p.2) (hl : l.length < 1073741824) (hr : rightB l = false) : C E 35 [bxD l] .nils := by
  refine CG_intro Tryz.func35 rfl (by kernel_rfl) rfl (by kernel_rfl) (by kernel_rfl) rfl ?_
  have hR := box_Right hq hl
  rw [hr] at hR
  simp (maxSteps := 3000000) (disch := first | exact trivial | assumption | omega | exact rOk | exact rCl | exact rNo) only [go_sem, seval]
  refine callC hR ?_ rfl ?_
  · simp (maxSteps := 3000000) (disch := first | exact trivial | assumption | omega | exact rOk | exact rCl | exact rNo) only [go_sem, seval]
    try exact LesV.refl _
  simp (maxSteps := 3000000) (disch := first | exact trivial | assumption | omega | exact rOk | exact rCl | exact rNo) only [go_sem, seval]
theorem box_Mid {l : List (Rat × Rat)} (hq : ∀ p ∈ l, qb 40000000 p.1 ∧ qb 40000000 p.2) (hl : l.length < 1073741824) (hr : rightB l = true) : C E 35 [bxD l] (qlD (l.map midQ)) := by
  refine CG_intro Tryz.func35 rfl (by kernel_rfl) rfl (by kernel_rfl) (by kernel_rfl) rfl ?_
  have hR := box_Right (fun p hp => ⟨(hq p hp).1.qs (by omega), (hq p hp).2.qs (by omega)⟩) hl
  rw [hr] at hR
  simp (maxSteps := 3000000) (disch := first | exact trivial | assumption | omega | exact rOk | exact rCl | exact rNo) only [go_sem, seval]
  refine callC hR ?_ rfl ?_
  · simp (maxSteps := 3000000) (disch := first | exact trivial | assumption | omega | exact rOk | exact rCl | exact rNo) only [go_sem, seval]
    try exact LesV.refl _
  simp (maxSteps := 3000000) (disch := first | exact trivial | assumption | omega | exact rOk | exact rCl | exact rNo) only [go_sem, seval, bxD]
  refine AL.ofN 3 true 3 (fun _ => .unk) (fun i : Nat => i ≤ l.length) (fun i => l.length - i) (fun i => [(3, .sl 0 i 0 i), (9, bxD l), (10, .int .i64 l.length), (11, .int .i64 i)]) (fun i => [(0, .row false i true 3 i (qR ((l.take i).map midQ)))]) 0 (by simp (maxSteps := 3000000) (disch := first | exact trivial | assumption | omega | exact rOk | exact rCl | exact rNo) only [go_sem, seval]) (Nat.zero_le _) ?_ ?_ ?_ ?_
  · simp (maxSteps := 3000000) (disch := first | exact trivial | assumption | omega | exact rOk | exact rCl | exact rNo) only [go_sem, seval, bxD]
    try exact LeV.refl _
  · simp (maxSteps := 3000000) (disch := first | exact trivial | assumption | omega | exact rOk | exact rCl | exact rNo) only [go_sem, seval]
    try exact fun j hj => absurd hj (by omega)
  · intro x _; simp (maxSteps := 3000000) (disch := first | exact trivial | assumption | omega | exact rOk | exact rCl | exact rNo) only [go_sem, seval]
  intro i hi
  by_cases hil : i = l.length
  · subst hil
    simp (maxSteps := 3000000) (disch := first | exact trivial | assumption | omega | exact rOk | exact rCl | exact rNo) only [go_sem, seval, bxD, qlD]
    refine LeV.ro (by simp) fun j hj => ?_
    rw [List.take_length]
    exact Le.refl _
  · have hil' : i < l.length := by omega
    have hm : l.getD i (0, 0) ∈ l := by
      rw [List.getD_eq_getElem?_getD, List.getElem?_eq_getElem hil']; exact List.getElem_mem hil'
    have hp : pR l i = sD (l.getD i (0, 0)) := rfl
    obtain ⟨q1, q2⟩ := hq _ hm
    have h := span_Mid q1 q2
    have ht : (l.take (i + 1)).map midQ = (l.take i).map midQ ++ [midQ (l.getD i (0, 0))] := by
      rw [List.take_add_one, List.getElem?_eq_getElem hil', List.map_append, List.getD_eq_getElem?_getD, List.getElem?_eq_getElem hil']; rfl
    generalize l.getD i (0, 0) = p at *
    simp (maxSteps := 3000000) (disch := first | exact trivial | assumption | omega | exact rOk | exact rCl | exact rNo) only [go_sem, seval, bxD, hp]
    refine callC h ?_ rfl ?_
    · simp (maxSteps := 3000000) (disch := first | exact trivial | assumption | omega | exact rOk | exact rCl | exact rNo) only [go_sem, seval]
      try exact LesV.refl _
    simp (maxSteps := 3000000) (disch := first | exact trivial | assumption | omega | exact rOk | exact rCl | exact rNo) only [go_sem, seval, bxD]
    refine ⟨.inl trivial, .inr trivial, by omega, by omega, ?_⟩
    refine ⟨i + 1, hil', by show l.length - (i + 1) < l.length - i; omega, ?_, ?_⟩
    · simp (maxSteps := 3000000) (disch := first | exact trivial | assumption | omega | exact rOk | exact rCl | exact rNo) only [go_sem, seval, bxD]
      try exact LeV_int (by omega)
    · simp (maxSteps := 3000000) (disch := first | exact trivial | assumption | omega | exact rOk | exact rCl | exact rNo) only [go_sem, seval, ht]
      exact fun j hj => Le.of_eq (qR_snoc (by rw [List.length_map, List.length_take]; omega) hj)
theorem set_rlo {l : List (Rat × Rat)} {i j : Nat} {m : Rat} (hi : i < l.length) (hj : j < l.length) : (if j = i then rsD ((l.getD i (0, 0)).1, m) else rsR l j) = rsR (l.set i ((l.getD i (0, 0)).1, m)) j := by
  unfold rsR
  by_cases h : j = i
  · subst h
    rw [if_pos rfl, List.getD_eq_getElem?_getD (l := l.set j _), List.getElem?_set_self hi]; rfl
  · rw [if_neg h, List.getD_eq_getElem?_getD, List.getD_eq_getElem?_getD, List.getElem?_set_ne (fun e => h e.symm)]
theorem set_rhi {l : List (Rat × Rat)} {i j : Nat} {m : Rat} (hi : i < l.length) (hj : j < l.length) : (if j = i then rsD (m, (l.getD i (0, 0)).2) else rsR l j) = rsR (l.set i (m, (l.getD i (0, 0)).2)) j := by
  unfold rsR
  by_cases h : j = i
  · subst h
    rw [if_pos rfl, List.getD_eq_getElem?_getD (l := l.set j _), List.getElem?_set_self hi]; rfl
  · rw [if_neg h, List.getD_eq_getElem?_getD, List.getD_eq_getElem?_getD, List.getElem?_set_ne (fun e => h e.symm)]
theorem ref_BoxSplit {l : List (Rat × Rat)} (hq : ∀ p ∈ l, qb 11000000 p.1 ∧ qb 11000000 p.2) (hl : l.length < 1073741824) {i : Nat} (hi' : i < l.length) : C E 39 [rbD l, .int .i64 (i : Int)] (.tup [rbD (splitL l i), rbD (splitH l i)]) := by
  refine CG_intro Tryz.func39 rfl (by kernel_rfl) rfl (by kernel_rfl) (by kernel_rfl) rfl ?_
  have hne : l ≠ [] := fun e => by subst e; simp at hi'
  have i0 : ((i : Nat) : Int).toNat = i := by omega
  have hmem : l.getD i (0, 0) ∈ l := by
    rw [List.getD_eq_getElem?_getD, List.getElem?_eq_getElem hi']; exact List.getElem_mem hi'
  obtain ⟨s1, s2⟩ := hq _ hmem
  have hM := ref_Mid s1 s2
  have hp : rsR l i = rsD (l.getD i (0, 0)) := rfl
  unfold splitL splitH
  simp (maxSteps := 3000000) (disch := first | exact trivial | assumption | omega | exact rOk | exact rCl | exact rNo) only [go_sem, seval, rbD, i0, hp]
  refine ⟨.inl trivial, .inr trivial, by omega, by omega, .inl trivial, .inr trivial, by omega, by omega, ?_⟩
  refine callC hM ?_ rfl ?_
  · simp (maxSteps := 3000000) (disch := first | exact trivial | assumption | omega | exact rOk | exact rCl | exact rNo) only [go_sem, seval]
    try exact LesV.refl _
  simp (maxSteps := 3000000) (disch := first | exact trivial | assumption | omega | exact rOk | exact rCl | exact rNo) only [go_sem, seval, rbD, i0, hp]
  refine AReg_anyL 12 [0, 1, 2, 3, 4, 5, 6, 7, 8, 9, 10, 11] rfl rfl (by decide +kernel) ?_
  refine AAny_free 0 [1, 2, 3, 4, 5, 6, 7, 8, 9, 10, 11] (by decide +kernel) rfl ?_
  refine AI_at _ rfl ?_
  simp (maxSteps := 3000000) (disch := first | exact trivial | assumption | omega | exact rOk | exact rCl | exact rNo) only [go_sem, seval, rbD, i0, hp]
  refine AAny_free 1 [2, 3, 4, 5, 6, 7, 8, 9, 10, 11] (by decide +kernel) rfl ?_
  refine AI_at _ rfl ?_
  simp (maxSteps := 3000000) (disch := first | exact trivial | assumption | omega | exact rOk | exact rCl | exact rNo) only [go_sem, seval, rbD, i0, hp]
  refine AAny_free 2 [3, 4, 5, 6, 7, 8, 9, 10, 11] (by decide +kernel) rfl ?_
  refine AI_at _ rfl ?_
  simp (maxSteps := 3000000) (disch := first | exact trivial | assumption | omega | exact rOk | exact rCl | exact rNo) only [go_sem, seval, rbD, i0, hp]
  refine AAny_free 3 [4, 5, 6, 7, 8, 9, 10, 11] (by decide +kernel) rfl ?_
  refine AI_at _ rfl ?_
  simp (maxSteps := 3000000) (disch := first | exact trivial | assumption | omega | exact rOk | exact rCl | exact rNo) only [go_sem, seval, rbD, i0, hp]
  refine AAny_free 4 [5, 6, 7, 8, 9, 10, 11] (by decide +kernel) rfl ?_
  refine AI_at _ rfl ?_
  simp (maxSteps := 3000000) (disch := first | exact trivial | assumption | omega | exact rOk | exact rCl | exact rNo) only [go_sem, seval, rbD, i0, hp]
  refine AAny_free 6 [5, 7, 8, 9, 10, 11] (by decide +kernel) rfl ?_
  refine AI_at _ rfl ?_
  simp (maxSteps := 3000000) (disch := first | exact trivial | assumption | omega | exact rOk | exact rCl | exact rNo) only [go_sem, seval, rbD, i0, hp]
  refine AAny_free 7 [5, 8, 9, 10, 11] (by decide +kernel) rfl ?_
  refine AI_at _ rfl ?_
  simp (maxSteps := 3000000) (disch := first | exact trivial | assumption | omega | exact rOk | exact rCl | exact rNo) only [go_sem, seval, rbD, i0, hp]
  refine AAny_step [(5, [8, 9, 10, 11]), (8, [5, 9, 10, 11])] (by decide +kernel) rfl ?_
  refine forall_more ?_ ?_
  · refine AI_at _ rfl ?_
    simp (maxSteps := 3000000) (disch := first | exact trivial | assumption | omega | exact rOk | exact rCl | exact rNo) only [go_sem, seval, rbD, i0, hp]
    refine AAny_free 8 [9, 10, 11] (by decide +kernel) rfl ?_
    refine AI_at _ rfl ?_
    simp (maxSteps := 3000000) (disch := first | exact trivial | assumption | omega | exact rOk | exact rCl | exact rNo) only [go_sem, seval, rbD, i0, hp]
    refine AAny_free 9 [10, 11] (by decide +kernel) rfl ?_
    refine AI_at _ rfl ?_
    simp (maxSteps := 3000000) (disch := first | exact trivial | assumption | omega | exact rOk | exact rCl | exact rNo) only [go_sem, seval, rbD, i0, hp]
    refine AAny_free 10 [11] (by decide +kernel) rfl ?_
    refine AI_at _ rfl ?_
    simp (maxSteps := 3000000) (disch := first | exact trivial | assumption | omega | exact rOk | exact rCl | exact rNo) only [go_sem, seval, rbD, i0, hp]
    refine AAny_free 11 [] (by decide +kernel) rfl ?_
    refine AI_at _ rfl ?_
    simp (maxSteps := 3000000) (disch := first | exact trivial | assumption | omega | exact rOk | exact rCl | exact rNo) only [go_sem, seval, rbD, i0, hp]
    refine AAny_end ?_
    simp (maxSteps := 3000000) (disch := first | exact trivial | assumption | omega | exact rOk | exact rCl | exact rNo) only [go_sem, seval, rbD, i0, hp]
    refine LeV.tup (LesV.cons (LeV.ro (by simp) fun j hj => ?_) (LesV.cons (LeV.ro (by simp) fun j hj => ?_) (LesV.refl _)))
    · exact Le.of_eq (Eq.trans rfl (set_rlo (m := midQ (l.getD i (0, 0))) hi' hj))
    · exact Le.of_eq (Eq.trans rfl (set_rhi (m := midQ (l.getD i (0, 0))) hi' hj))
  refine forall_one ?_
  refine AI_at _ rfl ?_
  simp (maxSteps := 3000000) (disch := first | exact trivial | assumption | omega | exact rOk | exact rCl | exact rNo) only [go_sem, seval, rbD, i0, hp]
  refine AAny_free 5 [9, 10, 11] (by decide +kernel) rfl ?_
  refine AI_at _ rfl ?_
  simp (maxSteps := 3000000) (disch := first | exact trivial | assumption | omega | exact rOk | exact rCl | exact rNo) only [go_sem, seval, rbD, i0, hp]
  refine AAny_free 9 [10, 11] (by decide +kernel) rfl ?_
  refine AI_at _ rfl ?_
  simp (maxSteps := 3000000) (disch := first | exact trivial | assumption | omega | exact rOk | exact rCl | exact rNo) only [go_sem, seval, rbD, i0, hp]
  refine AAny_free 10 [11] (by decide +kernel) rfl ?_
  refine AI_at _ rfl ?_
  simp (maxSteps := 3000000) (disch := first | exact trivial | assumption | omega | exact rOk | exact rCl | exact rNo) only [go_sem, seval, rbD, i0, hp]
  refine AAny_free 11 [] (by decide +kernel) rfl ?_
  refine AI_at _ rfl ?_
  simp (maxSteps := 3000000) (disch := first | exact trivial | assumption | omega | exact rOk | exact rCl | exact rNo) only [go_sem, seval, rbD, i0, hp]
  refine AAny_end ?_
  simp (maxSteps := 3000000) (disch := first | exact trivial | assumption | omega | exact rOk | exact rCl | exact rNo) only [go_sem, seval, rbD, i0, hp]
  refine LeV.tup (LesV.cons (LeV.ro (by simp) fun j hj => ?_) (LesV.cons (LeV.ro (by simp) fun j hj => ?_) (LesV.refl _)))
  · exact Le.of_eq (Eq.trans rfl (set_rlo (m := midQ (l.getD i (0, 0))) hi' hj))
  · exact Le.of_eq (Eq.trans rfl (set_rhi (m := midQ (l.getD i (0, 0))) hi' hj))
end Go.Proofs.YtmcinfbckdiaoaaGreatDoor.Lv
