/- Monomials: the order's laws. -/
import Derived.Test.YtcckbbanhacblaaMG
set_option linter.unusedVariables false
set_option linter.unusedSimpArgs false
set_option maxRecDepth 100000
set_option maxHeartbeats 4000000
namespace Go.Proofs.Ytcckbbanhacblaa.Lv
open Go Go.RowKit

def key (a b c : Nat) : Int := ((a : Int) + b + c) * 16777216 + a * 65536 + b * 256 + c
theorem sg_lt {x y : Int} (h : x < y) : sg x y = -1 := by simp [sg, h]
theorem sg_gt {x y : Int} (h : y < x) : sg x y = 1 := by simp [sg, h, show ¬ x < y by omega]
theorem sg_eq (x : Int) : sg x x = 0 := by simp [sg]
theorem sg_cases (x y : Int) : (x < y ∧ sg x y = -1) ∨ (x = y ∧ sg x y = 0) ∨ (y < x ∧ sg x y = 1) := by
  rcases Int.lt_trichotomy x y with h | h | h
  · exact .inl ⟨h, sg_lt h⟩
  · subst h; exact .inr (.inl ⟨rfl, sg_eq x⟩)
  · exact .inr (.inr ⟨h, sg_gt h⟩)
theorem mcmp_key {a b c a' b' c' : Nat} (ha : a < 256) (hb : b < 256) (hc : c < 256) (ha' : a' < 256) (hb' : b' < 256) (hc' : c' < 256) : mcmp a b c a' b' c' = sg (key a b c) (key a' b' c') := by
  unfold mcmp
  rcases sg_cases ((a + b + c : Nat) : Int) ((a' + b' + c' : Nat) : Int) with ⟨h0, e0⟩ | ⟨h0, e0⟩ | ⟨h0, e0⟩
  · rw [e0, sg_lt (x := key a b c) (y := key a' b' c') (by unfold key; omega)]; rfl
  · rw [e0]
    simp only [ne_eq, not_true_eq_false, if_false, lex]
    rcases sg_cases (a : Int) (a' : Int) with ⟨h1, e1⟩ | ⟨h1, e1⟩ | ⟨h1, e1⟩
    · rw [e1, sg_lt (x := key a b c) (y := key a' b' c') (by unfold key; omega)]; rfl
    · rw [e1]
      simp only [ne_eq, not_true_eq_false, if_false]
      rcases sg_cases (b : Int) (b' : Int) with ⟨h2, e2⟩ | ⟨h2, e2⟩ | ⟨h2, e2⟩
      · rw [e2, sg_lt (x := key a b c) (y := key a' b' c') (by unfold key; omega)]; rfl
      · have h3 : (c : Int) = c' := by omega
        rw [e2, h3, sg_eq, show key a b c = key a' b' c' by unfold key; omega, sg_eq]; rfl
      · rw [e2, sg_gt (x := key a b c) (y := key a' b' c') (by unfold key; omega)]; rfl
    · rw [e1, sg_gt (x := key a b c) (y := key a' b' c') (by unfold key; omega)]; rfl
  · rw [e0, sg_gt (x := key a b c) (y := key a' b' c') (by unfold key; omega)]; rfl
theorem sg_zero {x y : Int} (h : sg x y = 0) : x = y := by
  rcases sg_cases x y with ⟨_, e⟩ | ⟨e, _⟩ | ⟨_, e⟩
  · rw [e] at h; cases h
  · exact e
  · rw [e] at h; cases h
theorem key_inj {a b c a' b' c' : Nat} (ha : a < 256) (hb : b < 256) (hc : c < 256) (ha' : a' < 256) (hb' : b' < 256) (hc' : c' < 256) (h : key a b c = key a' b' c') : a = a' ∧ b = b' ∧ c = c' := by
  have k := mcmp_key ha hb hc ha' hb' hc'
  rw [h, sg_eq] at k
  simp only [mcmp, lex] at k
  have m : ∀ {x y : Nat}, (x : Int) = y → x = y := fun h => by omega
  have i0 : sg ((a + b + c : Nat) : Int) ((a' + b' + c' : Nat) : Int) = 0 := by
    rcases Decidable.em (sg ((a + b + c : Nat) : Int) ((a' + b' + c' : Nat) : Int) = 0) with e | e
    · exact e
    · rw [if_pos e] at k; exact k
  rw [i0] at k
  simp only [ne_eq, not_true_eq_false, if_false] at k
  have i1 : sg (a : Int) (a' : Int) = 0 := by
    rcases Decidable.em (sg (a : Int) (a' : Int) = 0) with e | e
    · exact e
    · rw [if_pos e] at k; exact k
  rw [i1] at k
  simp only [ne_eq, not_true_eq_false, if_false] at k
  have i2 : sg (b : Int) (b' : Int) = 0 := by
    rcases Decidable.em (sg (b : Int) (b' : Int) = 0) with e | e
    · exact e
    · rw [if_pos e] at k; exact k
  have j0 := sg_zero i0
  have j1 := m (sg_zero i1)
  have j2 := m (sg_zero i2)
  exact ⟨j1, j2, by omega⟩
theorem fit_bounds {a b c a' b' c' : Nat} (h : fit a b c a' b' c' = true) : a + a' < 256 ∧ b + b' < 256 ∧ c + c' < 256 := by
  simp only [fit, decide_eq_true_eq] at h
  omega
theorem sg_anti (x y : Int) : sg x y = -sg y x := by
  rcases Int.lt_trichotomy x y with h | h | h
  · rw [sg_lt h, sg_gt h]
  · subst h; rw [sg_eq]; rfl
  · rw [sg_lt h, sg_gt h]; rfl
theorem sg_le {x y : Int} : sg x y ≤ 0 ↔ x ≤ y := by
  rcases Int.lt_trichotomy x y with h | h | h
  · rw [sg_lt h]; constructor <;> intro <;> omega
  · subst h; rw [sg_eq]; simp
  · rw [sg_gt h]; constructor <;> intro <;> omega
theorem sg_add (x y z : Int) : sg (x + z) (y + z) = sg x y := by
  rcases Int.lt_trichotomy x y with h | h | h
  · rw [sg_lt h, sg_lt (by omega)]
  · subst h; rw [sg_eq, sg_eq]
  · rw [sg_gt h, sg_gt (by omega)]
section
variable {a b c a' b' c' x y z : Nat} (ha : a < 256) (hb : b < 256) (hc : c < 256) (ha' : a' < 256) (hb' : b' < 256) (hc' : c' < 256) (hx : x < 256) (hy : y < 256) (hz : z < 256)
include ha hb hc ha' hb' hc'
theorem mcmp_anti : mcmp a b c a' b' c' = -mcmp a' b' c' a b c := by
  rw [mcmp_key ha hb hc ha' hb' hc', mcmp_key ha' hb' hc' ha hb hc]; exact sg_anti _ _
theorem mcmp_zero : mcmp a b c a' b' c' = 0 ↔ a = a' ∧ b = b' ∧ c = c' := by
  rw [mcmp_key ha hb hc ha' hb' hc']
  constructor
  · exact fun h => key_inj ha hb hc ha' hb' hc' (sg_zero h)
  · rintro ⟨rfl, rfl, rfl⟩; exact sg_eq _
omit ha' hb' hc' in
theorem mcmp_min : mcmp 0 0 0 a b c ≤ 0 := by
  rw [mcmp_key (by omega) (by omega) (by omega) ha hb hc, sg_le]
  unfold key
  omega
include hx hy hz
theorem mcmp_trans (h : mcmp a b c a' b' c' ≤ 0) (h' : mcmp a' b' c' x y z ≤ 0) : mcmp a b c x y z ≤ 0 := by
  rw [mcmp_key ha hb hc ha' hb' hc', sg_le] at h
  rw [mcmp_key ha' hb' hc' hx hy hz, sg_le] at h'
  rw [mcmp_key ha hb hc hx hy hz, sg_le]
  exact Int.le_trans h h'
omit hx hy hz in
theorem mcmp_mul (f : fit a b c x y z = true) (f' : fit a' b' c' x y z = true) : mcmp (a + x) (b + y) (c + z) (a' + x) (b' + y) (c' + z) = mcmp a b c a' b' c' := by
  obtain ⟨f1, f2, f3⟩ := fit_bounds f
  obtain ⟨g1, g2, g3⟩ := fit_bounds f'
  rw [mcmp_key f1 f2 f3 g1 g2 g3, mcmp_key ha hb hc ha' hb' hc']
  have e : ∀ p q r : Nat, key (p + x) (q + y) (r + z) = key p q r + key x y z := by intro p q r; unfold key; omega
  rw [e, e, sg_add]
end
theorem sg_bd {x y : Int} : -1 ≤ sg x y ∧ sg x y ≤ 1 := by
  rcases sg_cases x y with h | h | h <;> omega
theorem mcmp_bd {a b c a' b' c' : Nat} : -1 ≤ mcmp a b c a' b' c' ∧ mcmp a b c a' b' c' ≤ 1 := by
  unfold mcmp
  split
  · exact sg_bd
  · simp only [lex]
    (repeat' split) <;> first | exact sg_bd | omega
theorem pk_lt {a b c a' b' c' : Nat} : pk (fit a b c a' b' c') (a + a') < 256 ∧ pk (fit a b c a' b' c') (b + b') < 256 ∧ pk (fit a b c a' b' c') (c + c') < 256 := by
  cases h : fit a b c a' b' c'
  · simp [pk]
  · simpa [pk] using fit_bounds h
theorem law_MonoOrders {a b c a' b' c' x y z : Nat} (ha : a < 256) (hb : b < 256) (hc : c < 256) (ha' : a' < 256) (hb' : b' < 256) (hc' : c' < 256) (hx : x < 256) (hy : y < 256) (hz : z < 256) :
    C E 3 [monoD a b c, monoD a' b' c', monoD x y z] (.bool true) := by
  refine CG_intro Try.func3 rfl (by kernel_rfl) rfl (by kernel_rfl) (by kernel_rfl) rfl ?_
  have b1 : -1 ≤ mcmp a' b' c' a b c ∧ mcmp a' b' c' a b c ≤ 1 := mcmp_bd
  have e1 : ((mcmp a b c a' b' c' != 0 - mcmp a' b' c' a b c)) = false := by
    rw [mcmp_anti ha hb hc ha' hb' hc']; simp
  have e2 : ((mcmp a b c a' b' c' == 0) == ((a : Int) == a' && ((b : Int) == b' && ((c : Int) == c')))) = true := by
    have h := mcmp_zero ha hb hc ha' hb' hc'
    rw [beq_iff_eq, Bool.eq_iff_iff]
    simp only [beq_iff_eq, Bool.and_eq_true, h]
    omega
  have e3 : ¬ mcmp 0 0 0 a b c > 0 := by
    have := mcmp_min ha hb hc
    omega
  simp (maxSteps := 3000000) (disch := first | exact trivial | assumption | omega | exact RegOk.mk (by decide +kernel) | exact RegCl.mk (by decide +kernel) | exact RegNo.mk (by kernel_rfl)) only [go_sem, seval, monoD]
  refine callC (mono_Cmp ha hb hc ha' hb' hc') (LesV.refl _) rfl ?_
  simp (maxSteps := 3000000) (disch := first | exact trivial | assumption | omega | exact RegOk.mk (by decide +kernel) | exact RegCl.mk (by decide +kernel) | exact RegNo.mk (by kernel_rfl)) only [go_sem, seval, monoD]
  refine callC law7_alive (LesV.refl _) rfl ?_
  simp (maxSteps := 3000000) (disch := first | exact trivial | assumption | omega | exact RegOk.mk (by decide +kernel) | exact RegCl.mk (by decide +kernel) | exact RegNo.mk (by kernel_rfl)) only [go_sem, seval, monoD]
  refine callC (mono_Cmp ha' hb' hc' ha hb hc) (LesV.refl _) rfl ?_
  simp (maxSteps := 3000000) (disch := first | exact trivial | assumption | omega | exact RegOk.mk (by decide +kernel) | exact RegCl.mk (by decide +kernel) | exact RegNo.mk (by kernel_rfl)) only [go_sem, seval, monoD, e1, e2]
  refine callC (mono_Cmp (a := 0) (b := 0) (c := 0) (by omega) (by omega) (by omega) ha hb hc) (LesV.refl _) rfl ?_
  simp (maxSteps := 3000000) (disch := first | exact trivial | assumption | omega | exact RegOk.mk (by decide +kernel) | exact RegCl.mk (by decide +kernel) | exact RegNo.mk (by kernel_rfl)) only [go_sem, seval, monoD, e3]
  have d1 : fit a b c x y z = true → divs a b c (pk (fit a b c x y z) (a + x)) (pk (fit a b c x y z) (b + y)) (pk (fit a b c x y z) (c + z)) = true := fun h => by
    simp [divs, pk, h]
  have d2 : fit a b c x y z = true → fit a' b' c' x y z = true → (mcmp (pk (fit a b c x y z) (a + x)) (pk (fit a b c x y z) (b + y)) (pk (fit a b c x y z) (c + z)) (pk (fit a' b' c' x y z) (a' + x)) (pk (fit a' b' c' x y z) (b' + y)) (pk (fit a' b' c' x y z) (c' + z)) == mcmp a b c a' b' c') = true := fun h h' => by
    rw [h, h', beq_iff_eq]
    exact mcmp_mul ha hb hc ha' hb' hc' h h'
  obtain ⟨p1, p2, p3⟩ := pk_lt (a := a) (b := b) (c := c) (a' := x) (b' := y) (c' := z)
  obtain ⟨q1, q2, q3⟩ := pk_lt (a := a') (b := b') (c := c') (a' := x) (b' := y) (c' := z)
  by_cases h1 : mcmp a b c a' b' c' ≤ 0
  · simp (maxSteps := 3000000) (disch := first | exact trivial | assumption | omega | exact RegOk.mk (by decide +kernel) | exact RegCl.mk (by decide +kernel) | exact RegNo.mk (by kernel_rfl)) only [go_sem, seval, monoD, h1]
    refine callC (mono_Cmp ha' hb' hc' hx hy hz) (LesV.refl _) rfl ?_
    by_cases h2 : mcmp a' b' c' x y z ≤ 0
    · have h3 : ¬ mcmp a b c x y z > 0 := by
        have := mcmp_trans ha hb hc ha' hb' hc' hx hy hz h1 h2
        omega
      simp (maxSteps := 3000000) (disch := first | exact trivial | assumption | omega | exact RegOk.mk (by decide +kernel) | exact RegCl.mk (by decide +kernel) | exact RegNo.mk (by kernel_rfl)) only [go_sem, seval, monoD, h2]
      refine callC (mono_Cmp ha hb hc hx hy hz) (LesV.refl _) rfl ?_
      simp (maxSteps := 3000000) (disch := first | exact trivial | assumption | omega | exact RegOk.mk (by decide +kernel) | exact RegCl.mk (by decide +kernel) | exact RegNo.mk (by kernel_rfl)) only [go_sem, seval, monoD, h3]
      refine callC (mono_Mul ha hb hc hx hy hz) (LesV.refl _) rfl ?_
      clear h1 h2 h3 e1 e2 e3 b1
      simp (maxSteps := 3000000) (disch := first | exact trivial | assumption | omega | exact RegOk.mk (by decide +kernel) | exact RegCl.mk (by decide +kernel) | exact RegNo.mk (by kernel_rfl)) only [go_sem, seval, monoD, mulD]
      refine callC (mono_Mul ha' hb' hc' hx hy hz) (LesV.refl _) rfl ?_
      cases f1 : fit a b c x y z
      · simp (maxSteps := 3000000) (disch := first | exact trivial | assumption | omega | exact RegOk.mk (by decide +kernel) | exact RegCl.mk (by decide +kernel) | exact RegNo.mk (by kernel_rfl)) only [go_sem, seval, monoD, mulD, f1]
      · cases f2 : fit a' b' c' x y z
        · simp (maxSteps := 3000000) (disch := first | exact trivial | assumption | omega | exact RegOk.mk (by decide +kernel) | exact RegCl.mk (by decide +kernel) | exact RegNo.mk (by kernel_rfl)) only [go_sem, seval, monoD, mulD, f1, f2]
        · rw [f1] at p1 p2 p3 d1 d2
          rw [f2] at q1 q2 q3 d2
          simp (maxSteps := 3000000) (disch := first | exact trivial | assumption | omega | exact RegOk.mk (by decide +kernel) | exact RegCl.mk (by decide +kernel) | exact RegNo.mk (by kernel_rfl)) only [go_sem, seval, monoD, mulD, f1, f2]
          refine callC (mono_Cmp p1 p2 p3 q1 q2 q3) (LesV.refl _) rfl ?_
          simp (maxSteps := 3000000) (disch := first | exact trivial | assumption | omega | exact RegOk.mk (by decide +kernel) | exact RegCl.mk (by decide +kernel) | exact RegNo.mk (by kernel_rfl)) only [go_sem, seval, monoD, mulD, d2 rfl rfl]
          refine callC mono_Divides (LesV.refl _) rfl ?_
          simp (maxSteps := 3000000) (disch := first | exact trivial | assumption | omega | exact RegOk.mk (by decide +kernel) | exact RegCl.mk (by decide +kernel) | exact RegNo.mk (by kernel_rfl)) only [go_sem, seval, monoD, mulD, d1 rfl]
    · simp (maxSteps := 3000000) (disch := first | exact trivial | assumption | omega | exact RegOk.mk (by decide +kernel) | exact RegCl.mk (by decide +kernel) | exact RegNo.mk (by kernel_rfl)) only [go_sem, seval, monoD, h2]
      refine callC (mono_Mul ha hb hc hx hy hz) (LesV.refl _) rfl ?_
      clear h1 e1 e2 e3 b1
      simp (maxSteps := 3000000) (disch := first | exact trivial | assumption | omega | exact RegOk.mk (by decide +kernel) | exact RegCl.mk (by decide +kernel) | exact RegNo.mk (by kernel_rfl)) only [go_sem, seval, monoD, mulD]
      refine callC (mono_Mul ha' hb' hc' hx hy hz) (LesV.refl _) rfl ?_
      cases f1 : fit a b c x y z
      · simp (maxSteps := 3000000) (disch := first | exact trivial | assumption | omega | exact RegOk.mk (by decide +kernel) | exact RegCl.mk (by decide +kernel) | exact RegNo.mk (by kernel_rfl)) only [go_sem, seval, monoD, mulD, f1]
      · cases f2 : fit a' b' c' x y z
        · simp (maxSteps := 3000000) (disch := first | exact trivial | assumption | omega | exact RegOk.mk (by decide +kernel) | exact RegCl.mk (by decide +kernel) | exact RegNo.mk (by kernel_rfl)) only [go_sem, seval, monoD, mulD, f1, f2]
        · rw [f1] at p1 p2 p3 d1 d2
          rw [f2] at q1 q2 q3 d2
          simp (maxSteps := 3000000) (disch := first | exact trivial | assumption | omega | exact RegOk.mk (by decide +kernel) | exact RegCl.mk (by decide +kernel) | exact RegNo.mk (by kernel_rfl)) only [go_sem, seval, monoD, mulD, f1, f2]
          refine callC (mono_Cmp p1 p2 p3 q1 q2 q3) (LesV.refl _) rfl ?_
          simp (maxSteps := 3000000) (disch := first | exact trivial | assumption | omega | exact RegOk.mk (by decide +kernel) | exact RegCl.mk (by decide +kernel) | exact RegNo.mk (by kernel_rfl)) only [go_sem, seval, monoD, mulD, d2 rfl rfl]
          refine callC mono_Divides (LesV.refl _) rfl ?_
          simp (maxSteps := 3000000) (disch := first | exact trivial | assumption | omega | exact RegOk.mk (by decide +kernel) | exact RegCl.mk (by decide +kernel) | exact RegNo.mk (by kernel_rfl)) only [go_sem, seval, monoD, mulD, d1 rfl]
  · simp (maxSteps := 3000000) (disch := first | exact trivial | assumption | omega | exact RegOk.mk (by decide +kernel) | exact RegCl.mk (by decide +kernel) | exact RegNo.mk (by kernel_rfl)) only [go_sem, seval, monoD, h1]
    refine callC (mono_Mul ha hb hc hx hy hz) (LesV.refl _) rfl ?_
    clear h1 e1 e2 e3 b1
    simp (maxSteps := 3000000) (disch := first | exact trivial | assumption | omega | exact RegOk.mk (by decide +kernel) | exact RegCl.mk (by decide +kernel) | exact RegNo.mk (by kernel_rfl)) only [go_sem, seval, monoD, mulD]
    refine callC (mono_Mul ha' hb' hc' hx hy hz) (LesV.refl _) rfl ?_
    cases f1 : fit a b c x y z
    · simp (maxSteps := 3000000) (disch := first | exact trivial | assumption | omega | exact RegOk.mk (by decide +kernel) | exact RegCl.mk (by decide +kernel) | exact RegNo.mk (by kernel_rfl)) only [go_sem, seval, monoD, mulD, f1]
    · cases f2 : fit a' b' c' x y z
      · simp (maxSteps := 3000000) (disch := first | exact trivial | assumption | omega | exact RegOk.mk (by decide +kernel) | exact RegCl.mk (by decide +kernel) | exact RegNo.mk (by kernel_rfl)) only [go_sem, seval, monoD, mulD, f1, f2]
      · rw [f1] at p1 p2 p3 d1 d2
        rw [f2] at q1 q2 q3 d2
        simp (maxSteps := 3000000) (disch := first | exact trivial | assumption | omega | exact RegOk.mk (by decide +kernel) | exact RegCl.mk (by decide +kernel) | exact RegNo.mk (by kernel_rfl)) only [go_sem, seval, monoD, mulD, f1, f2]
        refine callC (mono_Cmp p1 p2 p3 q1 q2 q3) (LesV.refl _) rfl ?_
        simp (maxSteps := 3000000) (disch := first | exact trivial | assumption | omega | exact RegOk.mk (by decide +kernel) | exact RegCl.mk (by decide +kernel) | exact RegNo.mk (by kernel_rfl)) only [go_sem, seval, monoD, mulD, d2 rfl rfl]
        refine callC mono_Divides (LesV.refl _) rfl ?_
        simp (maxSteps := 3000000) (disch := first | exact trivial | assumption | omega | exact RegOk.mk (by decide +kernel) | exact RegCl.mk (by decide +kernel) | exact RegNo.mk (by kernel_rfl)) only [go_sem, seval, monoD, mulD, d1 rfl]
end Go.Proofs.Ytcckbbanhacblaa.Lv
