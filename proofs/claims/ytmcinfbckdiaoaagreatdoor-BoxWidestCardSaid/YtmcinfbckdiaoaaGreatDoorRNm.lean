/- The first call of law 6; the law of the widest side. -/
import Derived.Test.YtmcinfbckdiaoaaGreatDoorRNl
set_option linter.unusedVariables false
set_option linter.unusedSimpArgs false
set_option maxRecDepth 100000
set_option maxHeartbeats 4000000
namespace Go.Proofs.YtmcinfbckdiaoaaGreatDoor.Lv
open Go Go.RowKit
theorem rp_two : rpO [50] = some ((2 : Int) : Rat) := by
  unfold rpO
  rw [if_neg (by decide)]
  have : zpO [50] = some 2 := by
    unfold zpO
    rw [if_neg (by decide), if_pos (by decide)]
    rfl
  rw [this]; rfl
theorem rp_mone : rpO [45, 49] = some ((-1 : Int) : Rat) := by
  unfold rpO
  rw [if_neg (by decide)]
  have : zpO [45, 49] = some (-1) := by decide
  rw [this]; rfl
theorem side_int {a b : List UInt8} {x y : Int} (ha : rpO a = some (x : Rat)) (hb : rpO b = some (y : Rat)) (h : x < y) : sideR a b = (((x : Rat), (y : Rat)), 0) := by
  have h1 : ¬ (y : Rat) < (x : Rat) := by rw [Rat.intCast_lt_intCast]; omega
  have h2 : ¬ (y : Rat) ≤ (x : Rat) := by rw [Rat.intCast_le_intCast]; omega
  have e1 : spR a b = (((x : Rat), (y : Rat)), 0) := by
    unfold spR
    rw [ha, hb]
    simp only [h1, if_false]
  unfold sideR
  rw [e1]
  simp only [ne_eq, not_true_eq_false, if_false, h2, dyq_int, and_self, if_true]
abbrev bx6 : List (Rat × Rat) := [(((0 : Int) : Rat), ((1 : Int) : Rat)), (((-1 : Int) : Rat), ((2 : Int) : Rat))]
theorem box6 : boxR [([48], [49]), ([45, 49], [50])] = (bx6, 0) := by
  have e1 := side_int rp_zero rp_one (by decide)
  have e2 := side_int rp_mone rp_two (by decide)
  have e3 : sidesR [([48], [49]), ([45, 49], [50])] = (bx6, 0) := by
    unfold sidesR
    simp [List.find?, e1, e2]
  unfold boxR
  rw [if_neg (by decide), e3]
theorem right6 : rightB bx6 = true := by decide +kernel
theorem wid6 : widF bx6 bx6.length = 1 := by decide +kernel
theorem qb_small (k : Int) (h : k.natAbs ≤ 2) : qb 40000000 (k : Rat) := by
  have h1 : nb k.natAbs ≤ 1 := nb_lt.2 (by omega)
  have h2 : nb 1 ≤ 1 := nb_lt.2 (by omega)
  exact ⟨by show nb _ ≤ _; rw [Rat.num_intCast]; omega, by rw [Rat.den_intCast]; omega⟩
theorem alive6 : C E 13 [] (.bool true) := by
  refine CG_intro Tryz.func13 rfl (by kernel_rfl) rfl (by kernel_rfl) (by kernel_rfl) rfl ?_
  have hP := box_Parse (l := [([48], [49]), ([45, 49], [50])]) (by decide) (fun p hp => by
    rw [List.mem_cons, List.mem_singleton] at hp
    rcases hp with rfl | rfl <;> exact ⟨by decide, by decide⟩)
  rw [box6] at hP
  have hbD : boxD (bx6, 0) = .tup [bxD bx6, .int .i64 0] := rfl
  rw [hbD] at hP
  have hr := right6
  have hw := wid6
  have hq : ∀ p ∈ bx6, qb 40000000 p.1 ∧ qb 40000000 p.2 := fun p hp => by
    rw [List.mem_cons, List.mem_singleton] at hp
    rcases hp with rfl | rfl
    · exact ⟨qb_small 0 (by decide), qb_small 1 (by decide)⟩
    · exact ⟨qb_small (-1) (by decide), qb_small 2 (by decide)⟩
  have hlen : bx6.length = 2 := rfl
  generalize bx6 = b at *
  have hR := box_Right (fun p hp => ⟨(hq p hp).1.qs (by omega), (hq p hp).2.qs (by omega)⟩) (by omega)
  have hW := box_Widest hq (by omega) hr
  rw [hr] at hR
  rw [hw] at hW
  simp (maxSteps := 3000000) (disch := first | exact trivial | assumption | omega | exact RegOk.mk (by decide +kernel) | exact RegCl.mk (by decide +kernel) | exact RegNo.mk (by kernel_rfl)) only [go_sem, seval]
  refine callC hP ?_ rfl ?_
  · simp (maxSteps := 3000000) (disch := first | exact trivial | assumption | omega | exact RegOk.mk (by decide +kernel) | exact RegCl.mk (by decide +kernel) | exact RegNo.mk (by kernel_rfl)) only [go_sem, seval]
    refine LesV.cons (LeV.ro rfl fun i hi => ?_) LesV.nil
    rcases (show i = 0 ∨ i = 1 by omega) with rfl | rfl
    · exact Le.refl _
    · exact Le.refl _
  simp (maxSteps := 3000000) (disch := first | exact trivial | assumption | omega | exact RegOk.mk (by decide +kernel) | exact RegCl.mk (by decide +kernel) | exact RegNo.mk (by kernel_rfl)) only [go_sem, seval, bxD, hlen]
  refine callC hR ?_ rfl ?_
  · simp (maxSteps := 3000000) (disch := first | exact trivial | assumption | omega | exact RegOk.mk (by decide +kernel) | exact RegCl.mk (by decide +kernel) | exact RegNo.mk (by kernel_rfl)) only [go_sem, seval, bxD, hlen]
    try exact LesV.refl _
  simp (maxSteps := 3000000) (disch := first | exact trivial | assumption | omega | exact RegOk.mk (by decide +kernel) | exact RegCl.mk (by decide +kernel) | exact RegNo.mk (by kernel_rfl)) only [go_sem, seval, bxD, hlen]
  refine callC hW ?_ rfl ?_
  · simp (maxSteps := 3000000) (disch := first | exact trivial | assumption | omega | exact RegOk.mk (by decide +kernel) | exact RegCl.mk (by decide +kernel) | exact RegNo.mk (by kernel_rfl)) only [go_sem, seval, bxD, hlen]
    try exact LesV.refl _
  simp (maxSteps := 3000000) (disch := first | exact trivial | assumption | omega | exact RegOk.mk (by decide +kernel) | exact RegCl.mk (by decide +kernel) | exact RegNo.mk (by kernel_rfl)) only [go_sem, seval]
theorem wd_half (p : Rat × Rat) : wd (p.1, midQ p) + wd (p.1, midQ p) = wd p := by
  unfold wd midQ
  have e : ((2 : Int) : Rat) = 2 := rfl
  rw [e]
  grind
theorem boxWidest (l : List (Txt × Txt)) : C E 3 [txD l] (.bool true) := by
  refine CG_intro Tryz.func3 rfl (by kernel_rfl) rfl (by kernel_rfl) (by kernel_rfl) rfl ?_
  by_cases hok : okBx l
  case neg =>
    simp (maxSteps := 3000000) (disch := first | exact trivial | assumption | omega | exact RegOk.mk (by decide +kernel) | exact RegCl.mk (by decide +kernel) | exact RegNo.mk (by kernel_rfl)) only [go_sem, seval]
    refine callC (law6_Of_no hok) ?_ rfl ?_
    · simp (maxSteps := 3000000) (disch := first | exact trivial | assumption | omega | exact RegOk.mk (by decide +kernel) | exact RegCl.mk (by decide +kernel) | exact RegNo.mk (by kernel_rfl)) only [go_sem, seval]
      try exact LesV.refl _
    simp (maxSteps := 3000000) (disch := first | exact trivial | assumption | omega | exact RegOk.mk (by decide +kernel) | exact RegCl.mk (by decide +kernel) | exact RegNo.mk (by kernel_rfl)) only [go_sem, seval]
    refine callC alive6 ?_ rfl ?_
    · simp (maxSteps := 3000000) (disch := first | exact trivial | assumption | omega | exact RegOk.mk (by decide +kernel) | exact RegCl.mk (by decide +kernel) | exact RegNo.mk (by kernel_rfl)) only [go_sem, seval]
    simp (maxSteps := 3000000) (disch := first | exact trivial | assumption | omega | exact RegOk.mk (by decide +kernel) | exact RegCl.mk (by decide +kernel) | exact RegNo.mk (by kernel_rfl)) only [go_sem, seval]
  case pos =>
    obtain ⟨hb, hb1, hb3⟩ := boxR_ok hok.2
    have hO := law6_Of_yes hok
    generalize (boxR l).1 = b at *
    have hr := hb.1
    have hq : ∀ p ∈ b, qb 4001 p.1 ∧ qb 4001 p.2 := fun p hp => hb.2.2 p hp
    have hq4 : ∀ p ∈ b, qb 40000000 p.1 ∧ qb 40000000 p.2 := fun p hp => ⟨(hq p hp).1.mono (by omega), (hq p hp).2.mono (by omega)⟩
    have hW := box_Widest hq4 (by omega) hr
    have hwl := widF_lt b (b.length - 1)
    have hmx := widF_max b b.length
    rw [show b.length - 1 + 1 = b.length by omega] at hwl
    generalize widF b b.length = w at *
    have hwb : w < b.length := by omega
    have hS := box_Split hq4 (by omega) hr hwb
    have ew : ((w : Nat) : Int).toNat = w := by omega
    have hm : ∀ j, j < b.length → b.getD j (0, 0) ∈ b := fun j hj => by
      rw [List.getD_eq_getElem?_getD, List.getElem?_eq_getElem hj]; exact List.getElem_mem hj
    have hpw : pR b w = sD (b.getD w (0, 0)) := rfl
    have hll : (splitL b w).length = b.length := by unfold splitL; rw [List.length_set]
    have hlw : pR (splitL b w) w = sD ((b.getD w (0, 0)).1, midQ (b.getD w (0, 0))) := by
      unfold pR splitL
      rw [List.getD_eq_getElem?_getD (l := b.set w _), List.getElem?_set_self hwb]; rfl
    obtain ⟨q1, q2⟩ := hq _ (hm w hwb)
    have q3 := qb_mid q1 q2
    have k1 := span_Width (q1.mono (k := 40000000) (by omega)) (q2.mono (k := 40000000) (by omega))
    have k2 := span_Width (p := ((b.getD w (0, 0)).1, midQ (b.getD w (0, 0)))) (q1.mono (k := 40000000) (by omega)) (q3.mono (k := 40000000) (by omega))
    have v1 := wd_qb q1 q2
    have v2 := wd_qb (p := ((b.getD w (0, 0)).1, midQ (b.getD w (0, 0)))) (q1.mono (k := 8004) (by omega)) (q3.mono (k := 8004) (by omega))
    have k3 := rat_Add (v2.qs (by omega)) (v2.qs (by omega))
    rw [wd_half] at k3
    have k4 := rat_Cmp (v1.qs (by omega)) (v1.qs (by omega))
    have hs0 : sgQ (wd (b.getD w (0, 0))) (wd (b.getD w (0, 0))) = 0 := by
      unfold sgQ; rw [if_neg (by grind), if_pos rfl]
    rw [hs0] at k4
    simp (maxSteps := 3000000) (disch := first | exact trivial | assumption | omega | exact RegOk.mk (by decide +kernel) | exact RegCl.mk (by decide +kernel) | exact RegNo.mk (by kernel_rfl)) only [go_sem, seval]
    refine callC hO ?_ rfl ?_
    · simp (maxSteps := 3000000) (disch := first | exact trivial | assumption | omega | exact RegOk.mk (by decide +kernel) | exact RegCl.mk (by decide +kernel) | exact RegNo.mk (by kernel_rfl)) only [go_sem, seval]
      try exact LesV.refl _
    simp (maxSteps := 3000000) (disch := first | exact trivial | assumption | omega | exact RegOk.mk (by decide +kernel) | exact RegCl.mk (by decide +kernel) | exact RegNo.mk (by kernel_rfl)) only [go_sem, seval]
    refine callC alive6 ?_ rfl ?_
    · simp (maxSteps := 3000000) (disch := first | exact trivial | assumption | omega | exact RegOk.mk (by decide +kernel) | exact RegCl.mk (by decide +kernel) | exact RegNo.mk (by kernel_rfl)) only [go_sem, seval]
    simp (maxSteps := 3000000) (disch := first | exact trivial | assumption | omega | exact RegOk.mk (by decide +kernel) | exact RegCl.mk (by decide +kernel) | exact RegNo.mk (by kernel_rfl)) only [go_sem, seval]
    refine callC hW ?_ rfl ?_
    · simp (maxSteps := 3000000) (disch := first | exact trivial | assumption | omega | exact RegOk.mk (by decide +kernel) | exact RegCl.mk (by decide +kernel) | exact RegNo.mk (by kernel_rfl)) only [go_sem, seval]
      try exact LesV.refl _
    simp (maxSteps := 3000000) (disch := first | exact trivial | assumption | omega | exact RegOk.mk (by decide +kernel) | exact RegCl.mk (by decide +kernel) | exact RegNo.mk (by kernel_rfl)) only [go_sem, seval, bxD]
    refine callC hS ?_ rfl ?_
    · simp (maxSteps := 3000000) (disch := first | exact trivial | assumption | omega | exact RegOk.mk (by decide +kernel) | exact RegCl.mk (by decide +kernel) | exact RegNo.mk (by kernel_rfl)) only [go_sem, seval]
      try exact LesV.refl _
    simp (maxSteps := 3000000) (disch := first | exact trivial | assumption | omega | exact RegOk.mk (by decide +kernel) | exact RegCl.mk (by decide +kernel) | exact RegNo.mk (by kernel_rfl)) only [go_sem, seval, bxD]
    refine AL.of (fun i : Nat => i ≤ b.length) (fun i => b.length - i) (fun i => [(3, bxD b), (6, .int .i64 w), (7, bxD (splitL b w)), (9, .bool true), (10, .int .i64 i)]) (fun _ => []) 0 (Nat.zero_le _) ?_ ?_ ?_ ?_
    · simp (maxSteps := 3000000) (disch := first | exact trivial | assumption | omega | exact RegOk.mk (by decide +kernel) | exact RegCl.mk (by decide +kernel) | exact RegNo.mk (by kernel_rfl)) only [go_sem, seval, bxD]
      try exact LeV.refl _
    · simp (maxSteps := 3000000) (disch := first | exact trivial | assumption | omega | exact RegOk.mk (by decide +kernel) | exact RegCl.mk (by decide +kernel) | exact RegNo.mk (by kernel_rfl)) only [go_sem, seval]
    · intro x _; simp (maxSteps := 3000000) (disch := first | exact trivial | assumption | omega | exact RegOk.mk (by decide +kernel) | exact RegCl.mk (by decide +kernel) | exact RegNo.mk (by kernel_rfl)) only [go_sem, seval]
    clear hO hW hS hok
    intro i hi
    by_cases hil : i = b.length
    · subst hil
      simp (maxSteps := 3000000) (disch := first | exact trivial | assumption | omega | exact RegOk.mk (by decide +kernel) | exact RegCl.mk (by decide +kernel) | exact RegNo.mk (by kernel_rfl)) only [go_sem, seval, bxD, hll, ew, hpw, hlw]
      refine callCl k2 ?_ rfl ?_
      · simp (maxSteps := 3000000) (disch := first | exact trivial | assumption | omega | exact RegOk.mk (by decide +kernel) | exact RegCl.mk (by decide +kernel) | exact RegNo.mk (by kernel_rfl)) only [go_sem, seval]
        try exact LesV.refl _
      simp (maxSteps := 3000000) (disch := first | exact trivial | assumption | omega | exact RegOk.mk (by decide +kernel) | exact RegCl.mk (by decide +kernel) | exact RegNo.mk (by kernel_rfl)) only [go_sem, seval, bxD, hll, ew, hpw, hlw]
      refine callCl k2 ?_ rfl ?_
      · simp (maxSteps := 3000000) (disch := first | exact trivial | assumption | omega | exact RegOk.mk (by decide +kernel) | exact RegCl.mk (by decide +kernel) | exact RegNo.mk (by kernel_rfl)) only [go_sem, seval]
        try exact LesV.refl _
      simp (maxSteps := 3000000) (disch := first | exact trivial | assumption | omega | exact RegOk.mk (by decide +kernel) | exact RegCl.mk (by decide +kernel) | exact RegNo.mk (by kernel_rfl)) only [go_sem, seval, bxD, hll, ew, hpw, hlw]
      refine callCl k3 ?_ rfl ?_
      · simp (maxSteps := 3000000) (disch := first | exact trivial | assumption | omega | exact RegOk.mk (by decide +kernel) | exact RegCl.mk (by decide +kernel) | exact RegNo.mk (by kernel_rfl)) only [go_sem, seval]
        try exact LesV.refl _
      simp (maxSteps := 3000000) (disch := first | exact trivial | assumption | omega | exact RegOk.mk (by decide +kernel) | exact RegCl.mk (by decide +kernel) | exact RegNo.mk (by kernel_rfl)) only [go_sem, seval, bxD, hll, ew, hpw, hlw]
      refine callCl k1 ?_ rfl ?_
      · simp (maxSteps := 3000000) (disch := first | exact trivial | assumption | omega | exact RegOk.mk (by decide +kernel) | exact RegCl.mk (by decide +kernel) | exact RegNo.mk (by kernel_rfl)) only [go_sem, seval]
        try exact LesV.refl _
      simp (maxSteps := 3000000) (disch := first | exact trivial | assumption | omega | exact RegOk.mk (by decide +kernel) | exact RegCl.mk (by decide +kernel) | exact RegNo.mk (by kernel_rfl)) only [go_sem, seval, bxD, hll, ew, hpw, hlw]
      refine callCl k4 ?_ rfl ?_
      · simp (maxSteps := 3000000) (disch := first | exact trivial | assumption | omega | exact RegOk.mk (by decide +kernel) | exact RegCl.mk (by decide +kernel) | exact RegNo.mk (by kernel_rfl)) only [go_sem, seval]
        try exact LesV.refl _
      simp (maxSteps := 3000000) (disch := first | exact trivial | assumption | omega | exact RegOk.mk (by decide +kernel) | exact RegCl.mk (by decide +kernel) | exact RegNo.mk (by kernel_rfl)) only [go_sem, seval, bxD, hll, ew, hpw, hlw]
    · have hil' : i < b.length := by omega
      obtain ⟨m1, m2⟩ := hmx i hil'
      obtain ⟨s1, s2⟩ := hq _ (hm i hil')
      have hp : pR b i = sD (b.getD i (0, 0)) := rfl
      have v3 := wd_qb s1 s2
      have k5 := span_Width (s1.mono (k := 40000000) (by omega)) (s2.mono (k := 40000000) (by omega))
      have k6 := rat_Cmp (v3.qs (by omega)) (v1.qs (by omega))
      have hg := sgQ_gt (wd (b.getD i (0, 0))) (wd (b.getD w (0, 0)))
      rw [decide_eq_false (show ¬ wd (b.getD w (0, 0)) < wd (b.getD i (0, 0)) by grind)] at hg
      have hz : (sgQ (wd (b.getD i (0, 0))) (wd (b.getD w (0, 0))) == 0) = false ∨ ¬ i < w := by
        by_cases h : i < w
        · left
          have := m2 h
          have e : sgQ (wd (b.getD i (0, 0))) (wd (b.getD w (0, 0))) = -1 := by unfold sgQ; rw [if_pos this]
          rw [e]; rfl
        · right; exact h
      simp (maxSteps := 3000000) (disch := first | exact trivial | assumption | omega | exact RegOk.mk (by decide +kernel) | exact RegCl.mk (by decide +kernel) | exact RegNo.mk (by kernel_rfl)) only [go_sem, seval, bxD, hp, hpw, ew]
      refine callCl k5 ?_ rfl ?_
      · simp (maxSteps := 3000000) (disch := first | exact trivial | assumption | omega | exact RegOk.mk (by decide +kernel) | exact RegCl.mk (by decide +kernel) | exact RegNo.mk (by kernel_rfl)) only [go_sem, seval]
        try exact LesV.refl _
      simp (maxSteps := 3000000) (disch := first | exact trivial | assumption | omega | exact RegOk.mk (by decide +kernel) | exact RegCl.mk (by decide +kernel) | exact RegNo.mk (by kernel_rfl)) only [go_sem, seval, bxD, hp, hpw, ew]
      refine callCl k1 ?_ rfl ?_
      · simp (maxSteps := 3000000) (disch := first | exact trivial | assumption | omega | exact RegOk.mk (by decide +kernel) | exact RegCl.mk (by decide +kernel) | exact RegNo.mk (by kernel_rfl)) only [go_sem, seval]
        try exact LesV.refl _
      simp (maxSteps := 3000000) (disch := first | exact trivial | assumption | omega | exact RegOk.mk (by decide +kernel) | exact RegCl.mk (by decide +kernel) | exact RegNo.mk (by kernel_rfl)) only [go_sem, seval, bxD, hp, hpw, ew]
      refine callCl k6 ?_ rfl ?_
      · simp (maxSteps := 3000000) (disch := first | exact trivial | assumption | omega | exact RegOk.mk (by decide +kernel) | exact RegCl.mk (by decide +kernel) | exact RegNo.mk (by kernel_rfl)) only [go_sem, seval]
        try exact LesV.refl _
      rcases hz with hz | hz
      · simp (maxSteps := 3000000) (disch := first | exact trivial | assumption | omega | exact RegOk.mk (by decide +kernel) | exact RegCl.mk (by decide +kernel) | exact RegNo.mk (by kernel_rfl)) only [go_sem, seval, bxD, hp, hpw, ew, hg, hz]
        refine ⟨i + 1, hil', by show b.length - (i + 1) < b.length - i; omega, ?_, ?_⟩
        · simp (maxSteps := 3000000) (disch := first | exact trivial | assumption | omega | exact RegOk.mk (by decide +kernel) | exact RegCl.mk (by decide +kernel) | exact RegNo.mk (by kernel_rfl)) only [go_sem, seval, bxD]
          try exact LeV_int (by omega)
        · simp (maxSteps := 3000000) (disch := first | exact trivial | assumption | omega | exact RegOk.mk (by decide +kernel) | exact RegCl.mk (by decide +kernel) | exact RegNo.mk (by kernel_rfl)) only [go_sem, seval]
      · cases hc : (sgQ (wd (b.getD i (0, 0))) (wd (b.getD w (0, 0))) == 0)
        all_goals
          simp (maxSteps := 3000000) (disch := first | exact trivial | assumption | omega | exact RegOk.mk (by decide +kernel) | exact RegCl.mk (by decide +kernel) | exact RegNo.mk (by kernel_rfl)) only [go_sem, seval, bxD, hp, hpw, ew, hg, hc]
          refine ⟨i + 1, hil', by show b.length - (i + 1) < b.length - i; omega, ?_, ?_⟩
          · simp (maxSteps := 3000000) (disch := first | exact trivial | assumption | omega | exact RegOk.mk (by decide +kernel) | exact RegCl.mk (by decide +kernel) | exact RegNo.mk (by kernel_rfl)) only [go_sem, seval, bxD]
            try exact LeV_int (by omega)
          · simp (maxSteps := 3000000) (disch := first | exact trivial | assumption | omega | exact RegOk.mk (by decide +kernel) | exact RegCl.mk (by decide +kernel) | exact RegNo.mk (by kernel_rfl)) only [go_sem, seval]
end Go.Proofs.YtmcinfbckdiaoaaGreatDoor.Lv
