/- The program's account of boxes: Left, Top, Split, Close, New. -/
import Derived.Test.YtmcinfbckdiaoaaGreatDoorQE
set_option linter.unusedVariables false
set_option linter.unusedSimpArgs false
set_option maxRecDepth 100000
set_option maxHeartbeats 4000000
namespace Go.Proofs.YtmcinfbckdiaoaaGreatDoor.Lv
open Go Go.RowKit
theorem Left_nil : C E 32 [.nilp] (.int .i64 0) := by
  refine CG_intro Tryz.func32 rfl (by kernel_rfl) rfl (by kernel_rfl) (by kernel_rfl) rfl ?_
  simp (maxSteps := 3000000) (disch := first | exact trivial | assumption | omega | exact rOk | exact rCl | exact rNo) only [go_sem, seval]
theorem Top_nil : C E 31 [.nilp] (.tup [.nils, .int .i64 0, .bool false]) := by
  refine CG_intro Tryz.func31 rfl (by kernel_rfl) rfl (by kernel_rfl) (by kernel_rfl) rfl ?_
  simp (maxSteps := 3000000) (disch := first | exact trivial | assumption | omega | exact rOk | exact rCl | exact rNo) only [go_sem, seval]
  refine callC Left_nil ?_ rfl ?_
  · simp (maxSteps := 3000000) (disch := first | exact trivial | assumption | omega | exact rOk | exact rCl | exact rNo) only [go_sem, seval]
  simp (maxSteps := 3000000) (disch := first | exact trivial | assumption | omega | exact rOk | exact rCl | exact rNo) only [go_sem, seval]
theorem Split_nil (i : Int) : C E 30 [.nilp, .int .i64 i] (.int .i64 12) := by
  refine CG_intro Tryz.func30 rfl (by kernel_rfl) rfl (by kernel_rfl) (by kernel_rfl) rfl ?_
  simp (maxSteps := 3000000) (disch := first | exact trivial | assumption | omega | exact rOk | exact rCl | exact rNo) only [go_sem, seval]
  refine callC Top_nil ?_ rfl ?_
  · simp (maxSteps := 3000000) (disch := first | exact trivial | assumption | omega | exact rOk | exact rCl | exact rNo) only [go_sem, seval]
  simp (maxSteps := 3000000) (disch := first | exact trivial | assumption | omega | exact rOk | exact rCl | exact rNo) only [go_sem, seval]
theorem Close_nil : C E 29 [.nilp] (.int .i64 12) := by
  refine CG_intro Tryz.func29 rfl (by kernel_rfl) rfl (by kernel_rfl) (by kernel_rfl) rfl ?_
  simp (maxSteps := 3000000) (disch := first | exact trivial | assumption | omega | exact rOk | exact rCl | exact rNo) only [go_sem, seval]
  refine callC Left_nil ?_ rfl ?_
  · simp (maxSteps := 3000000) (disch := first | exact trivial | assumption | omega | exact rOk | exact rCl | exact rNo) only [go_sem, seval]
  simp (maxSteps := 3000000) (disch := first | exact trivial | assumption | omega | exact rOk | exact rCl | exact rNo) only [go_sem, seval]
/-- A place: a box that is left, and how deep it is. -/
abbrev Plc := List (Rat × Rat) × Int
def plD (p : Plc) : D := .agg [bxD p.1, .int .i64 p.2]
section
variable (p : Plc) (h : Hp) (ρ : Nat → Option Nat)
theorem cl_pl : cl (plD p) = true := Eq.trans rfl rfl
theorem flat_pl : flat (plD p) = false := Eq.trans rfl rfl
theorem imp_pl : imp ρ h (plD p) = plD p := Eq.trans rfl rfl
theorem refs_pl : refs ρ (plD p) = [] := Eq.trans rfl rfl
theorem asAgg_pl : asAgg (plD p) = some [bxD p.1, .int .i64 p.2] := Eq.trans rfl rfl
theorem one_pl : one h (plD p) = false := Eq.trans rfl rfl
end
attribute [go_sem] cl_pl flat_pl imp_pl refs_pl asAgg_pl one_pl
section
variable (r : Nat → Nat)
theorem ex_bx (l : List (Rat × Rat)) : exD r (bxD l) = bxD l := Eq.trans rfl rfl
theorem ex_pl (p : Plc) : exD r (plD p) = plD p := Eq.trans rfl rfl
theorem ex_sD (p : Rat × Rat) : exD r (sD p) = sD p := Eq.trans rfl rfl
theorem ex_qD (p : Rat) : exD r (qD p) = qD p := Eq.trans rfl rfl
theorem ex_zD (p : Int) : exD r (zD p) = zD p := Eq.trans rfl rfl
theorem ex_nat (p : Nat) : exD r (natD p) = natD p := Eq.trans rfl rfl
end
attribute [go_sem] ex_bx ex_pl ex_sD ex_qD ex_zD ex_nat
/-- An account of n boxes. -/
def cvH (v N : Nat) (most : Int) (n : Nat) (f : Nat → D) : Hp := [(0, .var true 2 (.agg [.sl 1 v 0 n, .int .i64 most])), (1, .row false v true 2 N f)]
theorem cov_Left (v N : Nat) (most : Int) {n : Nat} (f : Nat → D) (hn : n < 1073741824) : CG E 32 [.ad 0 0] (cvH v N most n f) (.int .i64 n) (cvH v N most n f) := by
  unfold cvH
  refine CG_intro Tryz.func32 rfl (by kernel_rfl) rfl (by kernel_rfl) (by kernel_rfl) rfl ?_
  simp (maxSteps := 3000000) (disch := first | exact trivial | assumption | omega | exact rOk | exact rCl | exact rNo) only [go_sem, seval]
  try exact fun _ _ => trivial
theorem cov_Top0 (v N : Nat) (most : Int) (f : Nat → D) : CG E 31 [.ad 0 0] (cvH v N most 0 f) (.tup [.nils, .int .i64 0, .bool false]) (cvH v N most 0 f) := by
  have hL := cov_Left v N most f (n := 0) (by omega)
  unfold cvH at hL ⊢
  refine CG_intro Tryz.func31 rfl (by kernel_rfl) rfl (by kernel_rfl) (by kernel_rfl) rfl ?_
  simp (maxSteps := 3000000) (disch := first | exact trivial | assumption | omega | exact rOk | exact rCl | exact rNo) only [go_sem, seval]
  refine callG [0, 1] hL rfl (by simp (maxSteps := 3000000) (disch := first | exact trivial | assumption | omega | exact rOk | exact rCl | exact rNo) only [go_sem, seval]) ?_ ?_ ?_
  · simp (maxSteps := 3000000) (disch := first | exact trivial | assumption | omega | exact rOk | exact rCl | exact rNo) only [go_sem, seval]
  · simp (maxSteps := 3000000) (disch := first | exact trivial | assumption | omega | exact rOk | exact rCl | exact rNo) only [go_sem, seval]
  simp (maxSteps := 3000000) (disch := first | exact trivial | assumption | omega | exact rOk | exact rCl | exact rNo) only [go_sem, seval]
  try exact fun _ _ => trivial
theorem cov_Top (v N : Nat) (most : Int) {n : Nat} (f : Nat → D) (hn : n + 1 < 1073741824) (hN : n + 1 ≤ N) {p : Plc} (hp : f n = plD p) (h0 : p.1 ≠ []) (hl : p.1.length < 1073741824) :
    CG E 31 [.ad 0 0] (cvH v N most (n + 1) f) (.tup [bxD p.1, .int .i64 p.2, .bool true]) (cvH v N most (n + 1) f) := by
  have hL := cov_Left v N most f (n := n + 1) (by omega)
  unfold cvH at hL ⊢
  refine CG_intro Tryz.func31 rfl (by kernel_rfl) rfl (by kernel_rfl) (by kernel_rfl) rfl ?_
  have e1 : (((n + 1 : Nat) : Int) - 1).toNat = n := by omega
  simp (maxSteps := 3000000) (disch := first | exact trivial | assumption | omega | exact rOk | exact rCl | exact rNo) only [go_sem, seval]
  refine callG [0, 1] hL rfl (by simp (maxSteps := 3000000) (disch := first | exact trivial | assumption | omega | exact rOk | exact rCl | exact rNo) only [go_sem, seval]) ?_ ?_ ?_
  · simp (maxSteps := 3000000) (disch := first | exact trivial | assumption | omega | exact rOk | exact rCl | exact rNo) only [go_sem, seval]
  · simp (maxSteps := 3000000) (disch := first | exact trivial | assumption | omega | exact rOk | exact rCl | exact rNo) only [go_sem, seval]
  simp (maxSteps := 3000000) (disch := first | exact trivial | assumption | omega | exact rOk | exact rCl | exact rNo) only [go_sem, seval, e1, hp]
  refine callNl (clone_sp h0 hl) ?_ ?_
  · simp (maxSteps := 3000000) (disch := first | exact trivial | assumption | omega | exact rOk | exact rCl | exact rNo) only [go_sem, seval]
  simp (maxSteps := 3000000) (disch := first | exact trivial | assumption | omega | exact rOk | exact rCl | exact rNo) only [go_sem, seval, e1, hp]
  exact ⟨LeV.refl _, fun _ _ => trivial⟩
theorem clone_spC {l : List (Rat × Rat)} (h0 : l ≠ []) (hn : l.length < 1073741824) : C E 52 [bxD l] (bxD l) := by
  refine CG.le ((clone_sp h0 hn).freeze rfl) ?_
  simp only [imp, nof, lookB, if_true]
  exact LeV.ro rfl fun i hi => by rw [Nat.zero_add]; exact Le.refl _
theorem cov_New_no {l : List (Rat × Rat)} (hq : ∀ p ∈ l, qs p.1 ∧ qs p.2) (hl : l.length < 1073741824) (d : Int) (hr : rightB l = false) : C E 28 [bxD l, .int .i64 d] .nilp := by
  refine CG_intro Tryz.func28 rfl (by kernel_rfl) rfl (by kernel_rfl) (by kernel_rfl) rfl ?_
  have hR := box_Right hq hl
  rw [hr] at hR
  simp (maxSteps := 3000000) (disch := first | exact trivial | assumption | omega | exact rOk | exact rCl | exact rNo) only [go_sem, seval]
  refine callC hR ?_ rfl ?_
  · simp (maxSteps := 3000000) (disch := first | exact trivial | assumption | omega | exact rOk | exact rCl | exact rNo) only [go_sem, seval]
  simp (maxSteps := 3000000) (disch := first | exact trivial | assumption | omega | exact rOk | exact rCl | exact rNo) only [go_sem, seval]
theorem cov_New {l : List (Rat × Rat)} (hq : ∀ p ∈ l, qs p.1 ∧ qs p.2) (hl : l.length < 1073741824) (d : Int) (hr : rightB l = true) : CG E 28 [bxD l, .int .i64 d] [] (.ad 1 0) [(1, .var true 2 (.agg [.sl 0 0 0 1, .int .i64 d])), (0, .row false 0 true 2 1 fun _ => plD (l, 0))] := by
  refine CG_intro Tryz.func28 rfl (by kernel_rfl) rfl (by kernel_rfl) (by kernel_rfl) rfl ?_
  have hR := box_Right hq hl
  rw [hr] at hR
  have hne : l ≠ [] := fun e => by subst e; simp [rightB] at hr
  simp (maxSteps := 3000000) (disch := first | exact trivial | assumption | omega | exact rOk | exact rCl | exact rNo) only [go_sem, seval]
  refine callC hR ?_ rfl ?_
  · simp (maxSteps := 3000000) (disch := first | exact trivial | assumption | omega | exact rOk | exact rCl | exact rNo) only [go_sem, seval]
  simp (maxSteps := 3000000) (disch := first | exact trivial | assumption | omega | exact rOk | exact rCl | exact rNo) only [go_sem, seval]
  refine callC (clone_spC hne hl) ?_ rfl ?_
  · simp (maxSteps := 3000000) (disch := first | exact trivial | assumption | omega | exact rOk | exact rCl | exact rNo) only [go_sem, seval]
  simp (maxSteps := 3000000) (disch := first | exact trivial | assumption | omega | exact rOk | exact rCl | exact rNo) only [go_sem, seval]
  intro i hi
  obtain rfl : i = 0 := by omega
  exact Le.refl _
end Go.Proofs.YtmcinfbckdiaoaaGreatDoor.Lv
