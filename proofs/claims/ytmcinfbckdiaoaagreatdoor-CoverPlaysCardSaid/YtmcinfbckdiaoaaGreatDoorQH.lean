/- The laws of the account of boxes: the first call; of a nil one there is nothing. -/
import Derived.Test.YtmcinfbckdiaoaaGreatDoorQG
import Derived.Test.YtmcinfbckdiaoaaGreatDoorQHa
set_option linter.unusedVariables false
set_option linter.unusedSimpArgs false
set_option maxRecDepth 100000
set_option maxHeartbeats 4000000
namespace Go.Proofs.YtmcinfbckdiaoaaGreatDoor.Lv
open Go Go.RowKit
theorem alive24 : C E 26 [] (.bool true) := by
  refine CG_intro Tryz.func26 rfl (by kernel_rfl) rfl (by kernel_rfl) (by kernel_rfl) rfl ?_
  have hP := box_Parse (l := [([48], [49])]) (by decide) (fun p hp => by rw [List.mem_singleton] at hp; subst hp; exact ⟨by decide, by decide⟩)
  rw [box01] at hP
  have hbD : boxD ([(((0 : Int) : Rat), ((1 : Int) : Rat))], 0) = .tup [bxD [(((0 : Int) : Rat), ((1 : Int) : Rat))], .int .i64 0] := rfl
  rw [hbD] at hP
  have hr := right01
  obtain ⟨k0, k1⟩ := qb_int01
  have hq : ∀ p ∈ [(((0 : Int) : Rat), ((1 : Int) : Rat))], qb 40000000 p.1 ∧ qb 40000000 p.2 := fun p hp => by rw [List.mem_singleton] at hp; subst hp; exact ⟨k0, k1⟩
  have hlen : [(((0 : Int) : Rat), ((1 : Int) : Rat))].length = 1 := rfl
  generalize [(((0 : Int) : Rat), ((1 : Int) : Rat))] = b at *
  have hN := cov_New (l := b) (fun p hp => ⟨(hq p hp).1.qs (by omega), (hq p hp).2.qs (by omega)⟩) (by omega) 0 hr
  have hS := cov_Split_deep 0 1 0 (n := 0) (fun _ => plD (b, 0)) (by omega) (by omega) (p := (b, 0)) rfl hq (by show b.length < _; omega) (i := 0) hr (by show 0 < b.length; omega) (by show (0 : Int) ≤ 0; omega)
  have hL := cov_Left 0 1 0 (n := 1) (fun _ => plD (b, 0)) (by omega)
  unfold cvH at hS hL
  simp (maxSteps := 3000000) (disch := first | exact trivial | assumption | omega | exact rOk | exact rCl | exact rNo) only [go_sem, seval]
  refine callC hP ?_ rfl ?_
  · simp (maxSteps := 3000000) (disch := first | exact trivial | assumption | omega | exact rOk | exact rCl | exact rNo) only [go_sem, seval]
    refine LesV.cons (LeV.ro rfl fun i hi => ?_) LesV.nil
    obtain rfl : i = 0 := by omega
    exact Le.refl _
  simp (maxSteps := 3000000) (disch := first | exact trivial | assumption | omega | exact rOk | exact rCl | exact rNo) only [go_sem, seval]
  refine callN hN ?_ ?_
  · simp (maxSteps := 3000000) (disch := first | exact trivial | assumption | omega | exact rOk | exact rCl | exact rNo) only [go_sem, seval]
  simp (maxSteps := 3000000) (disch := first | exact trivial | assumption | omega | exact rOk | exact rCl | exact rNo) only [go_sem, seval]
  refine callG [2, 1] hS rfl (by simp (maxSteps := 3000000) (disch := first | exact trivial | assumption | omega | exact rOk | exact rCl | exact rNo) only [go_sem, seval]) ?_ ?_ ?_
  · simp (maxSteps := 3000000) (disch := first | exact trivial | assumption | omega | exact rOk | exact rCl | exact rNo) only [go_sem, seval]
    try exact LesV.refl _
  · simp (maxSteps := 3000000) (disch := first | exact trivial | assumption | omega | exact rOk | exact rCl | exact rNo) only [go_sem, seval]
  simp (maxSteps := 3000000) (disch := first | exact trivial | assumption | omega | exact rOk | exact rCl | exact rNo) only [go_sem, seval]
  refine callG [2, 1] hL rfl (by simp (maxSteps := 3000000) (disch := first | exact trivial | assumption | omega | exact rOk | exact rCl | exact rNo) only [go_sem, seval]) ?_ ?_ ?_
  · simp (maxSteps := 3000000) (disch := first | exact trivial | assumption | omega | exact rOk | exact rCl | exact rNo) only [go_sem, seval]
  · simp (maxSteps := 3000000) (disch := first | exact trivial | assumption | omega | exact rOk | exact rCl | exact rNo) only [go_sem, seval]
  simp (maxSteps := 3000000) (disch := first | exact trivial | assumption | omega | exact rOk | exact rCl | exact rNo) only [go_sem, seval]
end Go.Proofs.YtmcinfbckdiaoaaGreatDoor.Lv
