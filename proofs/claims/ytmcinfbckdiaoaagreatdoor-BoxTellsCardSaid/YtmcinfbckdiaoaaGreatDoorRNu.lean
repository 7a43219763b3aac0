/- The law of a box' texts: the walk. -/
import Derived.Test.YtmcinfbckdiaoaaGreatDoorRNt
set_option linter.unusedVariables false
set_option linter.unusedSimpArgs false
set_option maxRecDepth 100000
set_option maxHeartbeats 4000000
namespace Go.Proofs.YtmcinfbckdiaoaaGreatDoor.Lv
open Go Go.RowKit
theorem sideR_text {a b : Txt} (h : (sideR a b).2 = 0) : plQ (sideR a b).1 = (a, b) := by
  have hs : (spR a b).2 = 0 → plQ (spR a b).1 = (a, b) := by
    unfold spR
    cases ha : rpO a with
    | none => intro h; exact absurd h (show ¬ (2 : Int) = 0 by decide)
    | some x =>
      cases hb : rpO b with
      | none => intro h; exact absurd h (show ¬ (2 : Int) = 0 by decide)
      | some y =>
        simp only
        split
        · intro h; exact absurd h (by decide)
        · intro _
          unfold plQ
          rw [rpO_text ha, rpO_text hb]
  unfold sideR at h ⊢
  split at h
  · rename_i h1; exact absurd h h1
  · rename_i h1
    split at h
    · exact absurd h (by decide)
    · rename_i h2
      split at h
      · rename_i h3
        rw [if_neg h1, if_neg h2, if_pos h3]
        exact hs (by simpa using h1)
      · exact absurd h (by decide)
theorem boxR_text {l : List (Txt × Txt)} (h : (boxR l).2 = 0) : (boxR l).1.map plQ = l := by
  unfold boxR at h ⊢
  split at h
  · exact absurd h (by decide)
  · rename_i hlen
    rw [if_neg hlen]
    unfold sidesR at h ⊢
    split at h
    · rename_i p hp
      have := List.find?_some hp
      exact absurd h (of_decide_eq_true this)
    · rename_i hf
      have hz : ∀ p ∈ l, (sideR p.1 p.2).2 = 0 := fun p hp => by
        have := List.find?_eq_none.1 hf p hp
        simpa using this
      show (l.map fun p => (sideR p.1 p.2).1).map plQ = l
      rw [List.map_map]
      conv => rhs; rw [← List.map_id l]
      refine List.map_congr_left fun p hp => ?_
      exact sideR_text (hz p hp)
theorem boxTells (l : List (Txt × Txt)) : C E 4 [txD l] (.bool true) := by
  refine CG_intro Tryz.func4 rfl (by kernel_rfl) rfl (by kernel_rfl) (by kernel_rfl) rfl ?_
  have hP := book_Pairs l (m := 8) (by omega)
  simp (maxSteps := 3000000) (disch := first | exact trivial | assumption | omega | exact RegOk.mk (by decide +kernel) | exact RegCl.mk (by decide +kernel) | exact RegNo.mk (by kernel_rfl)) only [go_sem, seval]
  refine callC alive6 ?_ rfl ?_
  · simp (maxSteps := 3000000) (disch := first | exact trivial | assumption | omega | exact RegOk.mk (by decide +kernel) | exact RegCl.mk (by decide +kernel) | exact RegNo.mk (by kernel_rfl)) only [go_sem, seval]
  simp (maxSteps := 3000000) (disch := first | exact trivial | assumption | omega | exact RegOk.mk (by decide +kernel) | exact RegCl.mk (by decide +kernel) | exact RegNo.mk (by kernel_rfl)) only [go_sem, seval]
  refine callC hP ?_ rfl ?_
  · simp (maxSteps := 3000000) (disch := first | exact trivial | assumption | omega | exact RegOk.mk (by decide +kernel) | exact RegCl.mk (by decide +kernel) | exact RegNo.mk (by kernel_rfl)) only [go_sem, seval]
    try exact LesV.refl _
  by_cases hp : pairsB l 8 = true
  case neg =>
    have hp' : pairsB l 8 = false := by simpa using hp
    rw [hp']
    simp (maxSteps := 3000000) (disch := first | exact trivial | assumption | omega | exact RegOk.mk (by decide +kernel) | exact RegCl.mk (by decide +kernel) | exact RegNo.mk (by kernel_rfl)) only [go_sem, seval]
  case pos =>
    rw [hp]
    obtain ⟨hl, hs⟩ := pairsB_len hp
    have hs' : ∀ p ∈ l, p.1.length < 9223372036854775808 ∧ p.2.length < 9223372036854775808 := fun p h => by have := hs p h; omega
    have h1 := box_Parse (l := l) (by omega) hs'
    have h2 := ref_BoxParse (l := l) (by omega) hs'
    have h3 := book_SamePairs l (by omega)
    simp (maxSteps := 3000000) (disch := first | exact trivial | assumption | omega | exact RegOk.mk (by decide +kernel) | exact RegCl.mk (by decide +kernel) | exact RegNo.mk (by kernel_rfl)) only [go_sem, seval, txD]
    refine ⟨.inl trivial, .inr trivial, by omega, by omega, ?_⟩
    by_cases hz : (boxR l).2 = 0
    · have ht := boxR_text hz
      obtain ⟨hb, hb1, hb3⟩ := boxR_ok hz
      have e1 : boxD (boxR l) = .tup [bxD (boxR l).1, .int .i64 0] := by unfold boxD; rw [if_pos hz, hz]
      have e2 : rboxD (boxR l) = .tup [rbD (boxR l).1, .int .i64 0] := by unfold rboxD; rw [if_pos hz, hz]
      rw [e1] at h1
      rw [e2] at h2
      generalize (boxR l).1 = b at *
      have hq : ∀ p ∈ b, qb 40000000 p.1 ∧ qb 40000000 p.2 := fun p hp => ⟨(hb.2.2 p hp).1.mono (by omega), (hb.2.2 p hp).2.mono (by omega)⟩
      have h4 := law6_Is hq (by omega)
      have h5 := box_Right (fun p hp => ⟨(hq p hp).1.qs (by omega), (hq p hp).2.qs (by omega)⟩) (by omega : b.length < 1073741824)
      have h6 := box_Plain hq (by omega)
      rw [hb.1] at h5
      rw [ht] at h6
      refine callC h1 ?_ rfl ?_
      · simp (maxSteps := 3000000) (disch := first | exact trivial | assumption | omega | exact RegOk.mk (by decide +kernel) | exact RegCl.mk (by decide +kernel) | exact RegNo.mk (by kernel_rfl)) only [go_sem, seval]
        try exact LesV.refl _
      simp (maxSteps := 3000000) (disch := first | exact trivial | assumption | omega | exact RegOk.mk (by decide +kernel) | exact RegCl.mk (by decide +kernel) | exact RegNo.mk (by kernel_rfl)) only [go_sem, seval, txD]
      refine callC h2 ?_ rfl ?_
      · simp (maxSteps := 3000000) (disch := first | exact trivial | assumption | omega | exact RegOk.mk (by decide +kernel) | exact RegCl.mk (by decide +kernel) | exact RegNo.mk (by kernel_rfl)) only [go_sem, seval]
        try exact LesV.refl _
      simp (maxSteps := 3000000) (disch := first | exact trivial | assumption | omega | exact RegOk.mk (by decide +kernel) | exact RegCl.mk (by decide +kernel) | exact RegNo.mk (by kernel_rfl)) only [go_sem, seval, txD]
      refine callC h3 ?_ rfl ?_
      · simp (maxSteps := 3000000) (disch := first | exact trivial | assumption | omega | exact RegOk.mk (by decide +kernel) | exact RegCl.mk (by decide +kernel) | exact RegNo.mk (by kernel_rfl)) only [go_sem, seval]
        try exact LesV.refl _
      simp (maxSteps := 3000000) (disch := first | exact trivial | assumption | omega | exact RegOk.mk (by decide +kernel) | exact RegCl.mk (by decide +kernel) | exact RegNo.mk (by kernel_rfl)) only [go_sem, seval, txD]
      refine callC h4 ?_ rfl ?_
      · simp (maxSteps := 3000000) (disch := first | exact trivial | assumption | omega | exact RegOk.mk (by decide +kernel) | exact RegCl.mk (by decide +kernel) | exact RegNo.mk (by kernel_rfl)) only [go_sem, seval]
        try exact LesV.refl _
      simp (maxSteps := 3000000) (disch := first | exact trivial | assumption | omega | exact RegOk.mk (by decide +kernel) | exact RegCl.mk (by decide +kernel) | exact RegNo.mk (by kernel_rfl)) only [go_sem, seval, txD]
      refine callC h5 ?_ rfl ?_
      · simp (maxSteps := 3000000) (disch := first | exact trivial | assumption | omega | exact RegOk.mk (by decide +kernel) | exact RegCl.mk (by decide +kernel) | exact RegNo.mk (by kernel_rfl)) only [go_sem, seval]
        try exact LesV.refl _
      simp (maxSteps := 3000000) (disch := first | exact trivial | assumption | omega | exact RegOk.mk (by decide +kernel) | exact RegCl.mk (by decide +kernel) | exact RegNo.mk (by kernel_rfl)) only [go_sem, seval, txD]
      refine callC h6 ?_ rfl ?_
      · simp (maxSteps := 3000000) (disch := first | exact trivial | assumption | omega | exact RegOk.mk (by decide +kernel) | exact RegCl.mk (by decide +kernel) | exact RegNo.mk (by kernel_rfl)) only [go_sem, seval]
        try exact LesV.refl _
      simp (maxSteps := 3000000) (disch := first | exact trivial | assumption | omega | exact RegOk.mk (by decide +kernel) | exact RegCl.mk (by decide +kernel) | exact RegNo.mk (by kernel_rfl)) only [go_sem, seval, txD]
      refine callC h3 ?_ rfl ?_
      · simp (maxSteps := 3000000) (disch := first | exact trivial | assumption | omega | exact RegOk.mk (by decide +kernel) | exact RegCl.mk (by decide +kernel) | exact RegNo.mk (by kernel_rfl)) only [go_sem, seval]
        try exact LesV.refl _
      simp (maxSteps := 3000000) (disch := first | exact trivial | assumption | omega | exact RegOk.mk (by decide +kernel) | exact RegCl.mk (by decide +kernel) | exact RegNo.mk (by kernel_rfl)) only [go_sem, seval, txD]
    · generalize boxR l = r at *
      obtain ⟨b, c⟩ := r
      simp only at hz
      have e1 : boxD (b, c) = .tup [.nils, .int .i64 c] := by unfold boxD; rw [if_neg hz]
      have e2 : rboxD (b, c) = .tup [.nils, .int .i64 c] := by unfold rboxD; rw [if_neg hz]
      have hne1 : (c == 0) = false := beq_eq_false_iff_ne.2 hz
      have hne2 : (c != 0) = true := by rw [bne, hne1]; rfl
      have hcc : (c != c) = false := by simp
      rw [e1] at h1
      rw [e2] at h2
      refine callC h1 ?_ rfl ?_
      · simp (maxSteps := 3000000) (disch := first | exact trivial | assumption | omega | exact RegOk.mk (by decide +kernel) | exact RegCl.mk (by decide +kernel) | exact RegNo.mk (by kernel_rfl)) only [go_sem, seval]
        try exact LesV.refl _
      simp (maxSteps := 3000000) (disch := first | exact trivial | assumption | omega | exact RegOk.mk (by decide +kernel) | exact RegCl.mk (by decide +kernel) | exact RegNo.mk (by kernel_rfl)) only [go_sem, seval, txD]
      refine callC h2 ?_ rfl ?_
      · simp (maxSteps := 3000000) (disch := first | exact trivial | assumption | omega | exact RegOk.mk (by decide +kernel) | exact RegCl.mk (by decide +kernel) | exact RegNo.mk (by kernel_rfl)) only [go_sem, seval]
        try exact LesV.refl _
      simp (maxSteps := 3000000) (disch := first | exact trivial | assumption | omega | exact RegOk.mk (by decide +kernel) | exact RegCl.mk (by decide +kernel) | exact RegNo.mk (by kernel_rfl)) only [go_sem, seval, txD, hcc]
      refine callC h3 ?_ rfl ?_
      · simp (maxSteps := 3000000) (disch := first | exact trivial | assumption | omega | exact RegOk.mk (by decide +kernel) | exact RegCl.mk (by decide +kernel) | exact RegNo.mk (by kernel_rfl)) only [go_sem, seval]
        try exact LesV.refl _
      simp (maxSteps := 3000000) (disch := first | exact trivial | assumption | omega | exact RegOk.mk (by decide +kernel) | exact RegCl.mk (by decide +kernel) | exact RegNo.mk (by kernel_rfl)) only [go_sem, seval, txD, hne1, hne2]
end Go.Proofs.YtmcinfbckdiaoaaGreatDoor.Lv
