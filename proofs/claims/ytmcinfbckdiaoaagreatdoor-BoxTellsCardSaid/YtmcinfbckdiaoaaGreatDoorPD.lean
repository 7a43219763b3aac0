/- The program's numbers: Cmp. -/
import Derived.Test.YtmcinfbckdiaoaaGreatDoorPC
set_option linter.unusedVariables false
set_option linter.unusedSimpArgs false
set_option maxRecDepth 100000
set_option maxHeartbeats 4000000
namespace Go.Proofs.YtmcinfbckdiaoaaGreatDoor.Lv
open Go Go.RowKit

theorem sgI_lt {x y : Int} (h : x < y) : sgI x y = -1 := by rw [sgI, if_pos h]
theorem sgI_gt {x y : Int} (h : y < x) : sgI x y = 1 := by rw [sgI, if_neg (by omega), if_neg (by omega)]
theorem sgI_eq (x : Int) : sgI x x = 0 := by rw [sgI, if_neg (by omega), if_pos rfl]
theorem sgI_cases (x y : Int) : (x < y ∧ sgI x y = -1) ∨ (x = y ∧ sgI x y = 0) ∨ (y < x ∧ sgI x y = 1) := by
  rcases Int.lt_trichotomy x y with h | h | h
  · exact .inl ⟨h, sgI_lt h⟩
  · subst h; exact .inr (.inl ⟨rfl, sgI_eq x⟩)
  · exact .inr (.inr ⟨h, sgI_gt h⟩)
theorem drop_eq_succ {l m : List Nat} {k : Nat} (e : l.length = m.length) (hk : k < l.length) (hd : l.drop (k + 1) = m.drop (k + 1)) (h : l.getD k 0 = m.getD k 0) : l.drop k = m.drop k := by
  rw [List.drop_eq_getElem_cons hk, List.drop_eq_getElem_cons (l := m) (i := k) (by omega), hd]
  rw [List.getD_eq_getElem?_getD, List.getD_eq_getElem?_getD, List.getElem?_eq_getElem hk, List.getElem?_eq_getElem (l := m) (by omega)] at h
  simp only [Option.getD_some] at h
  rw [h]
theorem nat_Cmp {a b : Nat} (ha : nb a < 1073741824) (hb : nb b < 1073741824) : C E 57 [natD a, natD b] (.int .i64 (sgI a b)) := by
  refine CG_intro Tryz.func57 rfl (by kernel_rfl) rfl (by kernel_rfl) (by kernel_rfl) rfl ?_
  unfold nb at ha hb
  simp (maxSteps := 3000000) (disch := first | exact trivial | assumption | omega | exact RegOk.mk (by decide +kernel) | exact RegCl.mk (by decide +kernel) | exact RegNo.mk (by kernel_rfl)) only [go_sem, seval, natD, u32s]
  by_cases h1 : (limbs a).length < (limbs b).length
  · have := cmp_len h1
    simp (maxSteps := 3000000) (disch := first | exact trivial | assumption | omega | exact RegOk.mk (by decide +kernel) | exact RegCl.mk (by decide +kernel) | exact RegNo.mk (by kernel_rfl)) only [go_sem, seval, natD, u32s]
    exact LeV.of_eq (by rw [sgI_lt (by omega)])
  by_cases h2 : (limbs b).length < (limbs a).length
  · have := cmp_len h2
    simp (maxSteps := 3000000) (disch := first | exact trivial | assumption | omega | exact RegOk.mk (by decide +kernel) | exact RegCl.mk (by decide +kernel) | exact RegNo.mk (by kernel_rfl)) only [go_sem, seval, natD, u32s]
    exact LeV.of_eq (by rw [sgI_gt (by omega)])
  have e : (limbs a).length = (limbs b).length := by omega
  have va := val_limbs a
  have vb := val_limbs b
  have la := limbs_low a
  have lb := limbs_low b
  generalize limbs a = l at *
  generalize limbs b = m at *
  subst va vb
  have fin : ∀ c : Int, sgI ((val l : Nat) : Int) ((val m : Nat) : Int) = c → LeV (.int .i64 c) (.int .i64 (sgI ((val l : Nat) : Int) ((val m : Nat) : Int))) := fun c h => LeV.of_eq (by rw [h])
  simp (maxSteps := 3000000) (disch := first | exact trivial | assumption | omega | exact RegOk.mk (by decide +kernel) | exact RegCl.mk (by decide +kernel) | exact RegNo.mk (by kernel_rfl)) only [go_sem, seval, natD, u32s, e]
  refine callG [] (backward_u32 l) rfl rfl ?_ rfl ?_
  · simp (maxSteps := 3000000) (disch := first | exact trivial | assumption | omega | exact RegOk.mk (by decide +kernel) | exact RegCl.mk (by decide +kernel) | exact RegNo.mk (by kernel_rfl)) only [go_sem, seval, u32s, e]
  simp (maxSteps := 3000000) (disch := first | exact trivial | assumption | omega | exact RegOk.mk (by decide +kernel) | exact RegCl.mk (by decide +kernel) | exact RegNo.mk (by kernel_rfl)) only [go_sem, seval, u32s, e]
  refine AB.of 135 3 (fun k : Nat => k ≤ m.length ∧ l.drop k = m.drop k) (fun k => k) (fun _ => [(2, .ad 0 0), (3, .ad 1 0), (4, .ad 2 0), (23, .fn 135 [.ad 3 0])])
    (fun _ => [(3, .var false 1 (u32s l)), (2, .var false 1 (.int .i64 0)), (1, .var true 1 (.agg [u32s m])), (0, .var true 1 (.agg [u32s l]))]) m.length bw_u32 ⟨by omega, by rw [List.drop_of_length_le (by omega), List.drop_of_length_le (by omega)]⟩ ?_ ?_ ?_ (y := u32s l) ?_ ?_ (by omega) ?_ ?_ ?_
  · simp (maxSteps := 3000000) (disch := first | exact trivial | assumption | omega | exact RegOk.mk (by decide +kernel) | exact RegCl.mk (by decide +kernel) | exact RegNo.mk (by kernel_rfl)) only [go_sem, seval, u32s, e]
  · simp (maxSteps := 3000000) (disch := first | exact trivial | assumption | omega | exact RegOk.mk (by decide +kernel) | exact RegCl.mk (by decide +kernel) | exact RegNo.mk (by kernel_rfl)) only [go_sem, seval, u32s, e]
    try exact ⟨LeV.refl _, LeV.refl _, LeV.refl _⟩
  · simp (maxSteps := 3000000) (disch := first | exact trivial | assumption | omega | exact RegOk.mk (by decide +kernel) | exact RegCl.mk (by decide +kernel) | exact RegNo.mk (by kernel_rfl)) only [go_sem, seval]
  · simp (maxSteps := 3000000) (disch := first | exact trivial | assumption | omega | exact RegOk.mk (by decide +kernel) | exact RegCl.mk (by decide +kernel) | exact RegNo.mk (by kernel_rfl)) only [go_sem, seval]
  · simp (maxSteps := 3000000) (disch := first | exact trivial | assumption | omega | exact RegOk.mk (by decide +kernel) | exact RegCl.mk (by decide +kernel) | exact RegNo.mk (by kernel_rfl)) only [go_sem, seval, u32s, e]
  · intro x' _; simp (maxSteps := 3000000) (disch := first | exact trivial | assumption | omega | exact RegOk.mk (by decide +kernel) | exact RegCl.mk (by decide +kernel) | exact RegNo.mk (by kernel_rfl)) only [go_sem, seval]
  · rintro x' ⟨_, h⟩ rfl
    simp (maxSteps := 3000000) (disch := first | exact trivial | assumption | omega | exact RegOk.mk (by decide +kernel) | exact RegCl.mk (by decide +kernel) | exact RegNo.mk (by kernel_rfl)) only [go_sem, seval, u32s]
    rw [List.drop_zero, List.drop_zero] at h
    subst h
    exact fin 0 (sgI_eq _)
  · rintro x' k ⟨hk1, hd⟩ hk rfl
    have g1 := la.getD k
    have g2 := lb.getD k
    refine ⟨u32s l, .int .u32 ((l.getD k 0 : Nat) : Int), rfl, by simp [elt, u32s]; omega, ?_⟩
    by_cases c1 : l.getD k 0 < m.getD k 0
    · have := cmp_at la lb e (by omega) hd c1
      simp (maxSteps := 3000000) (disch := first | exact trivial | assumption | omega | exact RegOk.mk (by decide +kernel) | exact RegCl.mk (by decide +kernel) | exact RegNo.mk (by kernel_rfl)) only [go_sem, seval, u32s]
      exact fin (-1) (sgI_lt (by omega))
    by_cases c2 : m.getD k 0 < l.getD k 0
    · have := cmp_at lb la e.symm (by omega) hd.symm c2
      simp (maxSteps := 3000000) (disch := first | exact trivial | assumption | omega | exact RegOk.mk (by decide +kernel) | exact RegCl.mk (by decide +kernel) | exact RegNo.mk (by kernel_rfl)) only [go_sem, seval, u32s]
      exact fin 1 (sgI_gt (by omega))
    · simp (maxSteps := 3000000) (disch := first | exact trivial | assumption | omega | exact RegOk.mk (by decide +kernel) | exact RegCl.mk (by decide +kernel) | exact RegNo.mk (by kernel_rfl)) only [go_sem, seval, u32s]
      refine BGo.of k (by simp (maxSteps := 3000000) (disch := first | exact trivial | assumption | omega | exact RegOk.mk (by decide +kernel) | exact RegCl.mk (by decide +kernel) | exact RegNo.mk (by kernel_rfl)) only [go_sem, seval]) ⟨by omega, drop_eq_succ e (by omega) hd (by omega)⟩ rfl (by simp [mx]) ?_ ?_
      · simp (maxSteps := 3000000) (disch := first | exact trivial | assumption | omega | exact RegOk.mk (by decide +kernel) | exact RegCl.mk (by decide +kernel) | exact RegNo.mk (by kernel_rfl)) only [go_sem, seval, u32s]
      · simp (maxSteps := 3000000) (disch := first | exact trivial | assumption | omega | exact RegOk.mk (by decide +kernel) | exact RegCl.mk (by decide +kernel) | exact RegNo.mk (by kernel_rfl)) only [go_sem, seval, u32s]
end Go.Proofs.YtmcinfbckdiaoaaGreatDoor.Lv
