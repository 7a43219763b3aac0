/- The law of any sides: are they a box; its halves, its widest side, its middle. -/
import Derived.Test.YtmcinfbckdiaoaaGreatDoorRe
import Derived.Test.YtmcinfbckdiaoaaGreatDoorRc
import Derived.Test.YtmcinfbckdiaoaaGreatDoorRd
set_option linter.unusedVariables false
set_option linter.unusedSimpArgs false
set_option maxRecDepth 100000
set_option maxHeartbeats 4000000
namespace Go.Proofs.YtmcinfbckdiaoaaGreatDoor.Lv
open Go Go.RowKit
theorem boxSplits (l : List (Txt × Txt)) (ht : ∀ p ∈ l, p.1.length < 9223372036854775808 ∧ p.2.length < 9223372036854775808) (i : Int) : C E 6 [txD l, .int .i64 i] (.bool true) := by
  refine CG_intro Tryz.func6 rfl (by kernel_rfl) rfl (by kernel_rfl) (by kernel_rfl) rfl ?_
  have hRaw := law6_Raw ht
  have hlen := rawL_len l
  have hqb := rawL_qb l
  generalize rawL l = w at *
  have hqs : ∀ p ∈ w, qs p.1 ∧ qs p.2 := fun p hp => ⟨(hqb p hp).1.qs (by omega), (hqb p hp).2.qs (by omega)⟩
  have hq4 : ∀ p ∈ w, qb 40000000 p.1 ∧ qb 40000000 p.2 := fun p hp => ⟨(hqb p hp).1.mono (by omega), (hqb p hp).2.mono (by omega)⟩
  have hq12 : ∀ p ∈ w, qb 12000000 p.1 ∧ qb 12000000 p.2 := fun p hp => ⟨(hqb p hp).1.mono (by omega), (hqb p hp).2.mono (by omega)⟩
  have hq11 : ∀ p ∈ w, qb 11000000 p.1 ∧ qb 11000000 p.2 := fun p hp => ⟨(hqb p hp).1.mono (by omega), (hqb p hp).2.mono (by omega)⟩
  have hR := box_Right hqs (by omega)
  have hR' := ref_BoxRight hqs (by omega)
  simp (maxSteps := 3000000) (disch := first | exact trivial | assumption | omega | exact rOk | exact rCl | exact rNo) only [go_sem, seval]
  refine callC alive6 ?_ rfl ?_
  · simp (maxSteps := 3000000) (disch := first | exact trivial | assumption | omega | exact rOk | exact rCl | exact rNo) only [go_sem, seval]
  simp (maxSteps := 3000000) (disch := first | exact trivial | assumption | omega | exact rOk | exact rCl | exact rNo) only [go_sem, seval]
  refine callC hRaw ?_ rfl ?_
  · simp (maxSteps := 3000000) (disch := first | exact trivial | assumption | omega | exact rOk | exact rCl | exact rNo) only [go_sem, seval]
    try exact LesV.refl _
  simp (maxSteps := 3000000) (disch := first | exact trivial | assumption | omega | exact rOk | exact rCl | exact rNo) only [go_sem, seval]
  refine callC hR' ?_ rfl ?_
  · simp (maxSteps := 3000000) (disch := first | exact trivial | assumption | omega | exact rOk | exact rCl | exact rNo) only [go_sem, seval]
    try exact LesV.refl _
  by_cases hr : rightB w = true
  case neg =>
    have hr' : rightB w = false := by simpa using hr
    rw [hr'] at hR ⊢
    have hS := box_Split_no hqs (by omega) (i := i) (fun h => hr h.1)
    have hM := box_Mid_no hqs (by omega) hr'
    have hW := box_Widest_no hq4 (by omega) hr'
    have hW' := ref_Widest_no hqs (by omega) hr'
    simp (maxSteps := 3000000) (disch := first | exact trivial | assumption | omega | exact rOk | exact rCl | exact rNo) only [go_sem, seval]
    refine callC hS ?_ rfl ?_
    · simp (maxSteps := 3000000) (disch := first | exact trivial | assumption | omega | exact rOk | exact rCl | exact rNo) only [go_sem, seval]
      try exact LesV.refl _
    simp (maxSteps := 3000000) (disch := first | exact trivial | assumption | omega | exact rOk | exact rCl | exact rNo) only [go_sem, seval]
    refine callC hM ?_ rfl ?_
    · simp (maxSteps := 3000000) (disch := first | exact trivial | assumption | omega | exact rOk | exact rCl | exact rNo) only [go_sem, seval]
      try exact LesV.refl _
    simp (maxSteps := 3000000) (disch := first | exact trivial | assumption | omega | exact rOk | exact rCl | exact rNo) only [go_sem, seval]
    refine callC hR ?_ rfl ?_
    · simp (maxSteps := 3000000) (disch := first | exact trivial | assumption | omega | exact rOk | exact rCl | exact rNo) only [go_sem, seval]
      try exact LesV.refl _
    simp (maxSteps := 3000000) (disch := first | exact trivial | assumption | omega | exact rOk | exact rCl | exact rNo) only [go_sem, seval]
    refine callC hW ?_ rfl ?_
    · simp (maxSteps := 3000000) (disch := first | exact trivial | assumption | omega | exact rOk | exact rCl | exact rNo) only [go_sem, seval]
      try exact LesV.refl _
    simp (maxSteps := 3000000) (disch := first | exact trivial | assumption | omega | exact rOk | exact rCl | exact rNo) only [go_sem, seval]
    refine callC hW' ?_ rfl ?_
    · simp (maxSteps := 3000000) (disch := first | exact trivial | assumption | omega | exact rOk | exact rCl | exact rNo) only [go_sem, seval]
      try exact LesV.refl _
    simp (maxSteps := 3000000) (disch := first | exact trivial | assumption | omega | exact rOk | exact rCl | exact rNo) only [go_sem, seval]
  case pos =>
    rw [hr] at hR ⊢
    have hB : BxB 4001 w.length w := ⟨hr, rfl, hqb⟩
    have hM := box_Mid hq4 (by omega) hr
    have hW := box_Widest hq4 (by omega) hr
    have hW' := ref_Widest hq12 (by omega) hr
    have h1 := (rightB_iff.1 hr).2.1
    have hI := law6_Is hq4 (by omega)
    by_cases hi : 0 ≤ i ∧ i < w.length
    · obtain ⟨hi0, hi1⟩ := hi
      obtain ⟨k, rfl⟩ := Int.eq_ofNat_of_zero_le hi0
      have hk : k < w.length := by omega
      obtain ⟨b1, b2⟩ := hB.split hk
      have hS := box_Split hq4 (by omega) hr hk
      have hS' := ref_BoxSplit hq11 (by omega) hk
      have hIl := law6_Is (l := splitL w k) (fun p hp => ⟨(b1.2.2 p hp).1.mono (by omega), (b1.2.2 p hp).2.mono (by omega)⟩) (by rw [b1.2.1]; omega)
      have hIh := law6_Is (l := splitH w k) (fun p hp => ⟨(b2.2.2 p hp).1.mono (by omega), (b2.2.2 p hp).2.mono (by omega)⟩) (by rw [b2.2.1]; omega)
      generalize splitL w k = wl at *
      generalize splitH w k = wh at *
      simp (maxSteps := 3000000) (disch := first | exact trivial | assumption | omega | exact rOk | exact rCl | exact rNo) only [go_sem, seval]
      refine callC hS ?_ rfl ?_
      · simp (maxSteps := 3000000) (disch := first | exact trivial | assumption | omega | exact rOk | exact rCl | exact rNo) only [go_sem, seval]
        try exact LesV.refl _
      simp (maxSteps := 3000000) (disch := first | exact trivial | assumption | omega | exact rOk | exact rCl | exact rNo) only [go_sem, seval]
      refine callC hM ?_ rfl ?_
      · simp (maxSteps := 3000000) (disch := first | exact trivial | assumption | omega | exact rOk | exact rCl | exact rNo) only [go_sem, seval]
        try exact LesV.refl _
      simp (maxSteps := 3000000) (disch := first | exact trivial | assumption | omega | exact rOk | exact rCl | exact rNo) only [go_sem, seval]
      refine callC hR ?_ rfl ?_
      · simp (maxSteps := 3000000) (disch := first | exact trivial | assumption | omega | exact rOk | exact rCl | exact rNo) only [go_sem, seval]
        try exact LesV.refl _
      simp (maxSteps := 3000000) (disch := first | exact trivial | assumption | omega | exact rOk | exact rCl | exact rNo) only [go_sem, seval]
      refine callC hW ?_ rfl ?_
      · simp (maxSteps := 3000000) (disch := first | exact trivial | assumption | omega | exact rOk | exact rCl | exact rNo) only [go_sem, seval]
        try exact LesV.refl _
      simp (maxSteps := 3000000) (disch := first | exact trivial | assumption | omega | exact rOk | exact rCl | exact rNo) only [go_sem, seval]
      refine callC hW' ?_ rfl ?_
      · simp (maxSteps := 3000000) (disch := first | exact trivial | assumption | omega | exact rOk | exact rCl | exact rNo) only [go_sem, seval]
        try exact LesV.refl _
      simp (maxSteps := 3000000) (disch := first | exact trivial | assumption | omega | exact rOk | exact rCl | exact rNo) only [go_sem, seval, rbD, qlD, List.length_map]
      refine AL.of (fun j : Nat => j ≤ w.length) (fun j => w.length - j) (fun j => [(1, .int .i64 k), (5, bxD w), (6, rbD w), (8, bxD wl), (9, bxD wh), (10, .bool true), (11, qlD (w.map midQ)), (12, .int .i64 j)]) (fun _ => []) 0 (Nat.zero_le _) ?_ ?_ ?_ ?_
      · simp (maxSteps := 3000000) (disch := first | exact trivial | assumption | omega | exact rOk | exact rCl | exact rNo) only [go_sem, seval, rbD, bxD, qlD, List.length_map]
        try exact LeV.refl _
      · simp (maxSteps := 3000000) (disch := first | exact trivial | assumption | omega | exact rOk | exact rCl | exact rNo) only [go_sem, seval]
      · intro x _; simp (maxSteps := 3000000) (disch := first | exact trivial | assumption | omega | exact rOk | exact rCl | exact rNo) only [go_sem, seval]
      intro j hj
      by_cases hjl : j = w.length
      · subst hjl
        simp (maxSteps := 3000000) (disch := first | exact trivial | assumption | omega | exact rOk | exact rCl | exact rNo) only [go_sem, seval, qlD, List.length_map]
        refine callC hS' ?_ rfl ?_
        · simp (maxSteps := 3000000) (disch := first | exact trivial | assumption | omega | exact rOk | exact rCl | exact rNo) only [go_sem, seval]
          try exact LesV.refl _
        simp (maxSteps := 3000000) (disch := first | exact trivial | assumption | omega | exact rOk | exact rCl | exact rNo) only [go_sem, seval]
        refine callC hIl ?_ rfl ?_
        · simp (maxSteps := 3000000) (disch := first | exact trivial | assumption | omega | exact rOk | exact rCl | exact rNo) only [go_sem, seval]
          try exact LesV.refl _
        simp (maxSteps := 3000000) (disch := first | exact trivial | assumption | omega | exact rOk | exact rCl | exact rNo) only [go_sem, seval]
        refine callC hIh ?_ rfl ?_
        · simp (maxSteps := 3000000) (disch := first | exact trivial | assumption | omega | exact rOk | exact rCl | exact rNo) only [go_sem, seval]
          try exact LesV.refl _
        simp (maxSteps := 3000000) (disch := first | exact trivial | assumption | omega | exact rOk | exact rCl | exact rNo) only [go_sem, seval]
        refine callC hI ?_ rfl ?_
        · simp (maxSteps := 3000000) (disch := first | exact trivial | assumption | omega | exact rOk | exact rCl | exact rNo) only [go_sem, seval]
          try exact LesV.refl _
        simp (maxSteps := 3000000) (disch := first | exact trivial | assumption | omega | exact rOk | exact rCl | exact rNo) only [go_sem, seval]
      · have hjl' : j < w.length := by omega
        have hm : w.getD j (0, 0) ∈ w := by
          rw [List.getD_eq_getElem?_getD, List.getElem?_eq_getElem hjl']; exact List.getElem_mem hjl'
        have hp : rsR w j = rsD (w.getD j (0, 0)) := rfl
        have hm2 : qR (w.map midQ) j = qD (midQ (w.getD j (0, 0))) := by
          unfold qR
          rw [List.getD_eq_getElem?_getD, List.getD_eq_getElem?_getD, List.getElem?_map, List.getElem?_eq_getElem hjl']; rfl
        obtain ⟨q1, q2⟩ := hqb _ hm
        generalize w.getD j (0, 0) = p at *
        have g1 := ref_Mid (q1.mono (by omega)) (q2.mono (by omega))
        have g2 := law3_Is ((qb_mid q1 q2).mono (by omega))
        simp (maxSteps := 3000000) (disch := first | exact trivial | assumption | omega | exact rOk | exact rCl | exact rNo) only [go_sem, seval, rbD, qlD, hp, hm2, List.length_map]
        refine callCl g1 ?_ rfl ?_
        · simp (maxSteps := 3000000) (disch := first | exact trivial | assumption | omega | exact rOk | exact rCl | exact rNo) only [go_sem, seval]
          try exact LesV.refl _
        simp (maxSteps := 3000000) (disch := first | exact trivial | assumption | omega | exact rOk | exact rCl | exact rNo) only [go_sem, seval, rbD, qlD, hp, hm2, List.length_map]
        refine callCl g2 ?_ rfl ?_
        · simp (maxSteps := 3000000) (disch := first | exact trivial | assumption | omega | exact rOk | exact rCl | exact rNo) only [go_sem, seval]
          try exact LesV.refl _
        simp (maxSteps := 3000000) (disch := first | exact trivial | assumption | omega | exact rOk | exact rCl | exact rNo) only [go_sem, seval, rbD, qlD, hp, hm2, List.length_map]
        refine ⟨j + 1, hjl', by show w.length - (j + 1) < w.length - j; omega, ?_, ?_⟩
        · simp (maxSteps := 3000000) (disch := first | exact trivial | assumption | omega | exact rOk | exact rCl | exact rNo) only [go_sem, seval, rbD, bxD, qlD, List.length_map]
          try exact LeV_int (by omega)
        · simp (maxSteps := 3000000) (disch := first | exact trivial | assumption | omega | exact rOk | exact rCl | exact rNo) only [go_sem, seval]
    · have hS := box_Split_no hqs (by omega) (i := i) (fun h => hi h.2)
      by_cases hi0 : 0 ≤ i
      · have hi1 : ¬ i < w.length := fun h => hi ⟨hi0, h⟩
        simp (maxSteps := 3000000) (disch := first | exact trivial | assumption | omega | exact rOk | exact rCl | exact rNo) only [go_sem, seval]
        refine callC hS ?_ rfl ?_
        · simp (maxSteps := 3000000) (disch := first | exact trivial | assumption | omega | exact rOk | exact rCl | exact rNo) only [go_sem, seval]
          try exact LesV.refl _
        simp (maxSteps := 3000000) (disch := first | exact trivial | assumption | omega | exact rOk | exact rCl | exact rNo) only [go_sem, seval]
        refine callC hM ?_ rfl ?_
        · simp (maxSteps := 3000000) (disch := first | exact trivial | assumption | omega | exact rOk | exact rCl | exact rNo) only [go_sem, seval]
          try exact LesV.refl _
        simp (maxSteps := 3000000) (disch := first | exact trivial | assumption | omega | exact rOk | exact rCl | exact rNo) only [go_sem, seval]
        refine callC hR ?_ rfl ?_
        · simp (maxSteps := 3000000) (disch := first | exact trivial | assumption | omega | exact rOk | exact rCl | exact rNo) only [go_sem, seval]
          try exact LesV.refl _
        simp (maxSteps := 3000000) (disch := first | exact trivial | assumption | omega | exact rOk | exact rCl | exact rNo) only [go_sem, seval]
        refine callC hW ?_ rfl ?_
        · simp (maxSteps := 3000000) (disch := first | exact trivial | assumption | omega | exact rOk | exact rCl | exact rNo) only [go_sem, seval]
          try exact LesV.refl _
        simp (maxSteps := 3000000) (disch := first | exact trivial | assumption | omega | exact rOk | exact rCl | exact rNo) only [go_sem, seval]
        refine callC hW' ?_ rfl ?_
        · simp (maxSteps := 3000000) (disch := first | exact trivial | assumption | omega | exact rOk | exact rCl | exact rNo) only [go_sem, seval]
          try exact LesV.refl _
        simp (maxSteps := 3000000) (disch := first | exact trivial | assumption | omega | exact rOk | exact rCl | exact rNo) only [go_sem, seval, rbD, qlD, List.length_map]
        refine AL.of (fun j : Nat => j ≤ w.length) (fun j => w.length - j) (fun j => [(1, .int .i64 i), (5, bxD w), (6, rbD w), (8, .nils), (9, .nils), (10, .bool false), (11, qlD (w.map midQ)), (12, .int .i64 j)]) (fun _ => []) 0 (Nat.zero_le _) ?_ ?_ ?_ ?_
        · simp (maxSteps := 3000000) (disch := first | exact trivial | assumption | omega | exact rOk | exact rCl | exact rNo) only [go_sem, seval, rbD, bxD, qlD, List.length_map]
          try exact LeV.refl _
        · simp (maxSteps := 3000000) (disch := first | exact trivial | assumption | omega | exact rOk | exact rCl | exact rNo) only [go_sem, seval]
        · intro x _; simp (maxSteps := 3000000) (disch := first | exact trivial | assumption | omega | exact rOk | exact rCl | exact rNo) only [go_sem, seval]
        intro j hj
        by_cases hjl : j = w.length
        · subst hjl
          simp (maxSteps := 3000000) (disch := first | exact trivial | assumption | omega | exact rOk | exact rCl | exact rNo) only [go_sem, seval, qlD, List.length_map]
        · have hjl' : j < w.length := by omega
          have hm : w.getD j (0, 0) ∈ w := by
            rw [List.getD_eq_getElem?_getD, List.getElem?_eq_getElem hjl']; exact List.getElem_mem hjl'
          have hp : rsR w j = rsD (w.getD j (0, 0)) := rfl
          have hm2 : qR (w.map midQ) j = qD (midQ (w.getD j (0, 0))) := by
            unfold qR
            rw [List.getD_eq_getElem?_getD, List.getD_eq_getElem?_getD, List.getElem?_map, List.getElem?_eq_getElem hjl']; rfl
          obtain ⟨q1, q2⟩ := hqb _ hm
          generalize w.getD j (0, 0) = p at *
          have g1 := ref_Mid (q1.mono (by omega)) (q2.mono (by omega))
          have g2 := law3_Is ((qb_mid q1 q2).mono (by omega))
          simp (maxSteps := 3000000) (disch := first | exact trivial | assumption | omega | exact rOk | exact rCl | exact rNo) only [go_sem, seval, rbD, qlD, hp, hm2, List.length_map]
          refine callCl g1 ?_ rfl ?_
          · simp (maxSteps := 3000000) (disch := first | exact trivial | assumption | omega | exact rOk | exact rCl | exact rNo) only [go_sem, seval]
            try exact LesV.refl _
          simp (maxSteps := 3000000) (disch := first | exact trivial | assumption | omega | exact rOk | exact rCl | exact rNo) only [go_sem, seval, rbD, qlD, hp, hm2, List.length_map]
          refine callCl g2 ?_ rfl ?_
          · simp (maxSteps := 3000000) (disch := first | exact trivial | assumption | omega | exact rOk | exact rCl | exact rNo) only [go_sem, seval]
            try exact LesV.refl _
          simp (maxSteps := 3000000) (disch := first | exact trivial | assumption | omega | exact rOk | exact rCl | exact rNo) only [go_sem, seval, rbD, qlD, hp, hm2, List.length_map]
          refine ⟨j + 1, hjl', by show w.length - (j + 1) < w.length - j; omega, ?_, ?_⟩
          · simp (maxSteps := 3000000) (disch := first | exact trivial | assumption | omega | exact rOk | exact rCl | exact rNo) only [go_sem, seval, rbD, bxD, qlD, List.length_map]
            try exact LeV_int (by omega)
          · simp (maxSteps := 3000000) (disch := first | exact trivial | assumption | omega | exact rOk | exact rCl | exact rNo) only [go_sem, seval]
      · simp (maxSteps := 3000000) (disch := first | exact trivial | assumption | omega | exact rOk | exact rCl | exact rNo) only [go_sem, seval]
        refine callC hS ?_ rfl ?_
        · simp (maxSteps := 3000000) (disch := first | exact trivial | assumption | omega | exact rOk | exact rCl | exact rNo) only [go_sem, seval]
          try exact LesV.refl _
        simp (maxSteps := 3000000) (disch := first | exact trivial | assumption | omega | exact rOk | exact rCl | exact rNo) only [go_sem, seval]
        refine callC hM ?_ rfl ?_
        · simp (maxSteps := 3000000) (disch := first | exact trivial | assumption | omega | exact rOk | exact rCl | exact rNo) only [go_sem, seval]
          try exact LesV.refl _
        simp (maxSteps := 3000000) (disch := first | exact trivial | assumption | omega | exact rOk | exact rCl | exact rNo) only [go_sem, seval]
        refine callC hR ?_ rfl ?_
        · simp (maxSteps := 3000000) (disch := first | exact trivial | assumption | omega | exact rOk | exact rCl | exact rNo) only [go_sem, seval]
          try exact LesV.refl _
        simp (maxSteps := 3000000) (disch := first | exact trivial | assumption | omega | exact rOk | exact rCl | exact rNo) only [go_sem, seval]
        refine callC hW ?_ rfl ?_
        · simp (maxSteps := 3000000) (disch := first | exact trivial | assumption | omega | exact rOk | exact rCl | exact rNo) only [go_sem, seval]
          try exact LesV.refl _
        simp (maxSteps := 3000000) (disch := first | exact trivial | assumption | omega | exact rOk | exact rCl | exact rNo) only [go_sem, seval]
        refine callC hW' ?_ rfl ?_
        · simp (maxSteps := 3000000) (disch := first | exact trivial | assumption | omega | exact rOk | exact rCl | exact rNo) only [go_sem, seval]
          try exact LesV.refl _
        simp (maxSteps := 3000000) (disch := first | exact trivial | assumption | omega | exact rOk | exact rCl | exact rNo) only [go_sem, seval, rbD, qlD, List.length_map]
        refine AL.of (fun j : Nat => j ≤ w.length) (fun j => w.length - j) (fun j => [(1, .int .i64 i), (5, bxD w), (6, rbD w), (8, .nils), (9, .nils), (10, .bool false), (11, qlD (w.map midQ)), (12, .int .i64 j)]) (fun _ => []) 0 (Nat.zero_le _) ?_ ?_ ?_ ?_
        · simp (maxSteps := 3000000) (disch := first | exact trivial | assumption | omega | exact rOk | exact rCl | exact rNo) only [go_sem, seval, rbD, bxD, qlD, List.length_map]
          try exact LeV.refl _
        · simp (maxSteps := 3000000) (disch := first | exact trivial | assumption | omega | exact rOk | exact rCl | exact rNo) only [go_sem, seval]
        · intro x _; simp (maxSteps := 3000000) (disch := first | exact trivial | assumption | omega | exact rOk | exact rCl | exact rNo) only [go_sem, seval]
        intro j hj
        by_cases hjl : j = w.length
        · subst hjl
          simp (maxSteps := 3000000) (disch := first | exact trivial | assumption | omega | exact rOk | exact rCl | exact rNo) only [go_sem, seval, qlD, List.length_map]
        · have hjl' : j < w.length := by omega
          have hm : w.getD j (0, 0) ∈ w := by
            rw [List.getD_eq_getElem?_getD, List.getElem?_eq_getElem hjl']; exact List.getElem_mem hjl'
          have hp : rsR w j = rsD (w.getD j (0, 0)) := rfl
          have hm2 : qR (w.map midQ) j = qD (midQ (w.getD j (0, 0))) := by
            unfold qR
            rw [List.getD_eq_getElem?_getD, List.getD_eq_getElem?_getD, List.getElem?_map, List.getElem?_eq_getElem hjl']; rfl
          obtain ⟨q1, q2⟩ := hqb _ hm
          generalize w.getD j (0, 0) = p at *
          have g1 := ref_Mid (q1.mono (by omega)) (q2.mono (by omega))
          have g2 := law3_Is ((qb_mid q1 q2).mono (by omega))
          simp (maxSteps := 3000000) (disch := first | exact trivial | assumption | omega | exact rOk | exact rCl | exact rNo) only [go_sem, seval, rbD, qlD, hp, hm2, List.length_map]
          refine callCl g1 ?_ rfl ?_
          · simp (maxSteps := 3000000) (disch := first | exact trivial | assumption | omega | exact rOk | exact rCl | exact rNo) only [go_sem, seval]
            try exact LesV.refl _
          simp (maxSteps := 3000000) (disch := first | exact trivial | assumption | omega | exact rOk | exact rCl | exact rNo) only [go_sem, seval, rbD, qlD, hp, hm2, List.length_map]
          refine callCl g2 ?_ rfl ?_
          · simp (maxSteps := 3000000) (disch := first | exact trivial | assumption | omega | exact rOk | exact rCl | exact rNo) only [go_sem, seval]
            try exact LesV.refl _
          simp (maxSteps := 3000000) (disch := first | exact trivial | assumption | omega | exact rOk | exact rCl | exact rNo) only [go_sem, seval, rbD, qlD, hp, hm2, List.length_map]
          refine ⟨j + 1, hjl', by show w.length - (j + 1) < w.length - j; omega, ?_, ?_⟩
          · simp (maxSteps := 3000000) (disch := first | exact trivial | assumption | omega | exact rOk | exact rCl | exact rNo) only [go_sem, seval, rbD, bxD, qlD, List.length_map]
            try exact LeV_int (by omega)
          · simp (maxSteps := 3000000) (disch := first | exact trivial | assumption | omega | exact rOk | exact rCl | exact rNo) only [go_sem, seval]
end Go.Proofs.YtmcinfbckdiaoaaGreatDoor.Lv
