/- The law of two boxes. -/
import Derived.Test.YtmcinfbckdiaoaaGreatDoorRf
import Derived.Test.YtmcinfbckdiaoaaGreatDoorRc
import Derived.Test.YtmcinfbckdiaoaaGreatDoorRd
set_option linter.unusedVariables false
set_option linter.unusedSimpArgs false
set_option maxRecDepth 100000
set_option maxHeartbeats 4000000
namespace Go.Proofs.YtmcinfbckdiaoaaGreatDoor.Lv
open Go Go.RowKit
/-- A row of texts. -/
def tR (l : List Txt) : Nat → D := fun i => .str (l.getD i [])
def tlD (l : List Txt) : D := .ro false 1 l.length (tR l)
theorem cl_tl (l : List Txt) : cl (tlD l) = true := Eq.trans rfl rfl
theorem flat_tl (l : List Txt) : flat (tlD l) = false := Eq.trans rfl rfl
attribute [go_sem] cl_tl flat_tl
def numL (l : List Txt) : List Rat := (l.take 5).filterMap numO
theorem numL_qs (l : List Txt) : ∀ q ∈ numL l, qs q := by
  intro q hq
  unfold numL at hq
  obtain ⟨a, _, ha⟩ := List.mem_filterMap.1 hq
  unfold numO at ha
  split at ha
  · exact (rpO_qb ha).qs (by omega)
  · cases ha
theorem numL_len (l : List Txt) : (numL l).length ≤ 5 := by
  unfold numL
  refine Nat.le_trans (List.length_filterMap_le _ _) ?_
  rw [List.length_take]; omega
def NmP (l : List Txt) (s : Nat × List Rat) : Prop := s.1 ≤ l.length ∧ s.1 ≤ 5 ∧ s.2 = (l.take s.1).filterMap numO
theorem les_or (a b : Rat) : lesQ a b = a ∨ lesQ a b = b := by unfold lesQ; split; exact .inr rfl; exact .inl rfl
theorem mor_or (a b : Rat) : morQ a b = a ∨ morQ a b = b := by unfold morQ; split; exact .inr rfl; exact .inl rfl
theorem hullF_qb {k : Nat} {a b : List (Rat × Rat)} (ha : ∀ p ∈ a, qb k p.1 ∧ qb k p.2) (hb : ∀ p ∈ b, qb k p.1 ∧ qb k p.2) (hl : a.length = b.length) : ∀ p ∈ hullF a b a.length, qb k p.1 ∧ qb k p.2 := by
  intro p hp
  unfold hullF at hp
  obtain ⟨j, hj, rfl⟩ := List.mem_map.1 hp
  have hj := List.mem_range.1 hj
  have q1 := ha _ (getD_in hj)
  have q2 := hb _ (getD_in (l := b) (i := j) (by omega))
  generalize a.getD j (0, 0) = x at *
  generalize b.getD j (0, 0) = y at *
  constructor
  · show qb k (lesQ x.1 y.1)
    rcases les_or x.1 y.1 with h | h <;> rw [h]
    · exact q1.1
    · exact q2.1
  · show qb k (morQ x.2 y.2)
    rcases mor_or x.2 y.2 with h | h <;> rw [h]
    · exact q1.2
    · exact q2.2
theorem boxSets (a b : List (Txt × Txt)) (p : List Txt) (hta : ∀ p ∈ a, p.1.length < 9223372036854775808 ∧ p.2.length < 9223372036854775808) (htb : ∀ p ∈ b, p.1.length < 9223372036854775808 ∧ p.2.length < 9223372036854775808) (htp : ∀ s ∈ p, s.length < 9223372036854775808) : C E 7 [txD a, txD b, tlD p] (.bool true) := by
  refine CG_intro Tryz.func7 rfl (by kernel_rfl) rfl (by kernel_rfl) (by kernel_rfl) rfl ?_
  have hRa := law6_Raw hta
  have hRb := law6_Raw htb
  have hla := rawL_len a
  have hlb := rawL_len b
  have hba := rawL_qb a
  have hbb := rawL_qb b
  generalize rawL a = wa at *
  generalize rawL b = wb at *
  have hqa : ∀ p ∈ wa, qs p.1 ∧ qs p.2 := fun p hp => ⟨(hba p hp).1.qs (by omega), (hba p hp).2.qs (by omega)⟩
  have hqb : ∀ p ∈ wb, qs p.1 ∧ qs p.2 := fun p hp => ⟨(hbb p hp).1.qs (by omega), (hbb p hp).2.qs (by omega)⟩
  have rA := ref_BoxRight hqa (by omega)
  have rB := ref_BoxRight hqb (by omega)
  have hW := box_Within hqa hqb (by omega) (by omega)
  have hW' := ref_BoxWithin hqa hqb (by omega) (by omega)
  have hM := box_Meets hqa hqb (by omega) (by omega)
  have hM' := ref_BoxMeets hqa hqb (by omega) (by omega)
  generalize (twoB wa wb && allB (fun j => inB (wa.getD j (0, 0)) (wb.getD j (0, 0))) wa.length) = vw at *
  generalize (twoB wa wb && allB (fun j => meB (wa.getD j (0, 0)) (wb.getD j (0, 0))) wa.length) = vm at *
  have hww : (vw != vw) = false := by cases vw <;> rfl
  have hmm : (vm != vm) = false := by cases vm <;> rfl
  simp (maxSteps := 3000000) (disch := first | exact trivial | assumption | omega | exact rOk | exact rCl | exact rNo) only [go_sem, seval]
  refine callC alive6 ?_ rfl ?_
  · simp (maxSteps := 3000000) (disch := first | exact trivial | assumption | omega | exact rOk | exact rCl | exact rNo) only [go_sem, seval]
    try exact LesV.refl _
  simp (maxSteps := 3000000) (disch := first | exact trivial | assumption | omega | exact rOk | exact rCl | exact rNo) only [go_sem, seval]
  refine callC hRa ?_ rfl ?_
  · simp (maxSteps := 3000000) (disch := first | exact trivial | assumption | omega | exact rOk | exact rCl | exact rNo) only [go_sem, seval]
    try exact LesV.refl _
  simp (maxSteps := 3000000) (disch := first | exact trivial | assumption | omega | exact rOk | exact rCl | exact rNo) only [go_sem, seval]
  refine callC hRb ?_ rfl ?_
  · simp (maxSteps := 3000000) (disch := first | exact trivial | assumption | omega | exact rOk | exact rCl | exact rNo) only [go_sem, seval]
    try exact LesV.refl _
  by_cases ht : twoB wa wb = true
  case pos =>
    have hHu := box_Hull hqa hqb (by omega) (by omega) ht
    obtain ⟨hl, hra, hrb⟩ := twoB_iff.1 ht
    rw [hra] at rA
    rw [hrb] at rB
    simp (maxSteps := 3000000) (disch := first | exact trivial | assumption | omega | exact rOk | exact rCl | exact rNo) only [go_sem, seval]
    refine callC hHu ?_ rfl ?_
    · simp (maxSteps := 3000000) (disch := first | exact trivial | assumption | omega | exact rOk | exact rCl | exact rNo) only [go_sem, seval]
      try exact LesV.refl _
    simp (maxSteps := 3000000) (disch := first | exact trivial | assumption | omega | exact rOk | exact rCl | exact rNo) only [go_sem, seval]
    refine callC rA ?_ rfl ?_
    · simp (maxSteps := 3000000) (disch := first | exact trivial | assumption | omega | exact rOk | exact rCl | exact rNo) only [go_sem, seval]
      try exact LesV.refl _
    simp (maxSteps := 3000000) (disch := first | exact trivial | assumption | omega | exact rOk | exact rCl | exact rNo) only [go_sem, seval]
    refine callC rB ?_ rfl ?_
    · simp (maxSteps := 3000000) (disch := first | exact trivial | assumption | omega | exact rOk | exact rCl | exact rNo) only [go_sem, seval]
      try exact LesV.refl _
    simp (maxSteps := 3000000) (disch := first | exact trivial | assumption | omega | exact rOk | exact rCl | exact rNo) only [go_sem, seval, rbD]
    refine callC hW ?_ rfl ?_
    · simp (maxSteps := 3000000) (disch := first | exact trivial | assumption | omega | exact rOk | exact rCl | exact rNo) only [go_sem, seval, rbD]
      try exact LesV.refl _
    simp (maxSteps := 3000000) (disch := first | exact trivial | assumption | omega | exact rOk | exact rCl | exact rNo) only [go_sem, seval]
    refine callC hW' ?_ rfl ?_
    · simp (maxSteps := 3000000) (disch := first | exact trivial | assumption | omega | exact rOk | exact rCl | exact rNo) only [go_sem, seval]
      try exact LesV.refl _
    simp (maxSteps := 3000000) (disch := first | exact trivial | assumption | omega | exact rOk | exact rCl | exact rNo) only [go_sem, seval, hww]
    refine callC hM ?_ rfl ?_
    · simp (maxSteps := 3000000) (disch := first | exact trivial | assumption | omega | exact rOk | exact rCl | exact rNo) only [go_sem, seval]
      try exact LesV.refl _
    simp (maxSteps := 3000000) (disch := first | exact trivial | assumption | omega | exact rOk | exact rCl | exact rNo) only [go_sem, seval]
    refine callC hM' ?_ rfl ?_
    · simp (maxSteps := 3000000) (disch := first | exact trivial | assumption | omega | exact rOk | exact rCl | exact rNo) only [go_sem, seval]
      try exact LesV.refl _
    simp (maxSteps := 3000000) (disch := first | exact trivial | assumption | omega | exact rOk | exact rCl | exact rNo) only [go_sem, seval, hmm, tlD]
    refine AL.ofNN 14 15 true true 3 3 (fun _ => .unk) (fun _ => .unk) (NmP p) (fun s => 5 - s.1) (fun s => [(2, tlD p), (7, bxD wa), (8, rbD wa), (9, bxD wb), (10, rbD wb), (11, bxD (hullF wa wb wa.length)), (13, .bool true), (14, .sl 0 s.2.length 0 s.2.length), (15, .sl 1 s.2.length 0 s.2.length), (16, .int .i64 s.1)]) (fun s => [(0, .row false s.2.length true 3 s.2.length (qR s.2)), (1, .row false s.2.length true 3 s.2.length (rqR s.2))]) (0, []) (by simp (maxSteps := 3000000) (disch := first | exact trivial | assumption | omega | exact rOk | exact rCl | exact rNo) only [go_sem, seval]) (by simp (maxSteps := 3000000) (disch := first | exact trivial | assumption | omega | exact rOk | exact rCl | exact rNo) only [go_sem, seval]) (by omega) ⟨Nat.zero_le _, Nat.zero_le _, rfl⟩ ?_ ?_ ?_ ?_
    · simp (maxSteps := 3000000) (disch := first | exact trivial | assumption | omega | exact rOk | exact rCl | exact rNo) only [go_sem, seval, bxD, rbD, tlD, List.length_nil]
      try exact LeV.refl _
    · simp (maxSteps := 3000000) (disch := first | exact trivial | assumption | omega | exact rOk | exact rCl | exact rNo) only [go_sem, seval, List.length_nil]
      try exact ⟨fun j hj => absurd hj (by omega), fun j hj => absurd hj (by omega)⟩
    · intro x _; simp (maxSteps := 3000000) (disch := first | exact trivial | assumption | omega | exact rOk | exact rCl | exact rNo) only [go_sem, seval]
    rintro ⟨i, w⟩ ⟨hi, hi5, hw⟩
    simp only at hi hi5 hw
    have hwl : w.length ≤ 5 := by rw [hw]; exact Nat.le_trans (List.length_filterMap_le _ _) (by rw [List.length_take]; omega)
    by_cases hend : i = p.length ∨ i = 5
    · have hr : numL p = w := by
        rw [hw]; unfold numL
        rcases hend with h | h
        · rw [h, List.take_length, List.take_of_length_le (by omega)]
        · rw [h]
      have hqw := numL_qs p
      rw [hr] at hqw
      have hH := box_Has hqa hqw (by omega) (by omega)
      have hH' := ref_BoxHas hqa hqw (by omega) (by omega)
      generalize (hoB wa w && allB (fun j => hasB (wa.getD j (0, 0)) (w.getD j 0)) wa.length) = vh at *
      have hhh : (vh != vh) = false := by cases vh <;> rfl
      clear hw hr
      have hgo : ∀ (b1 b2 : Bool), True := fun _ _ => trivial
      have hcond : (i = p.length ∧ i ≤ 5) ∨ (i = 5 ∧ i < p.length) := by omega
      rcases hcond with ⟨h, h5⟩ | ⟨h, h5⟩
      · subst h
        simp (maxSteps := 3000000) (disch := first | exact trivial | assumption | omega | exact rOk | exact rCl | exact rNo) only [go_sem, seval, tlD]
        refine callC hH ?_ rfl ?_
        · simp (maxSteps := 3000000) (disch := first | exact trivial | assumption | omega | exact rOk | exact rCl | exact rNo) only [go_sem, seval, bxD, qlD]
          try exact LesV.refl _
        simp (maxSteps := 3000000) (disch := first | exact trivial | assumption | omega | exact rOk | exact rCl | exact rNo) only [go_sem, seval, tlD]
        refine callC hH' ?_ rfl ?_
        · simp (maxSteps := 3000000) (disch := first | exact trivial | assumption | omega | exact rOk | exact rCl | exact rNo) only [go_sem, seval, rbD, rqlD]
          try exact LesV.refl _
        simp (maxSteps := 3000000) (disch := first | exact trivial | assumption | omega | exact rOk | exact rCl | exact rNo) only [go_sem, seval, hhh]
        clear hRa hRb rA rB hW hW' hM hM' hHu hH hH' hww hmm hhh
        have hIs := law6_Is (l := hullF wa wb wa.length) (fun p hp => ⟨(hullF_qb hba hbb hl p hp).1.mono (by omega), (hullF_qb hba hbb hl p hp).2.mono (by omega)⟩) (by rw [hullF_len]; omega)
        refine AL.ofN 20 true 6 (fun _ => .unk) (fun k : Nat => k ≤ wa.length) (fun k => wa.length - k) (fun k => [(8, rbD wa), (10, rbD wb), (11, bxD (hullF wa wb wa.length)), (20, .sl 2 k 0 k), (21, .int .i64 k)]) (fun k => [(2, .row false k true 6 k (rsR (hullF wa wb k)))]) 0 (by simp (maxSteps := 3000000) (disch := first | exact trivial | assumption | omega | exact rOk | exact rCl | exact rNo) only [go_sem, seval]) (Nat.zero_le _) ?_ ?_ ?_ ?_
        · simp (maxSteps := 3000000) (disch := first | exact trivial | assumption | omega | exact rOk | exact rCl | exact rNo) only [go_sem, seval, rbD, bxD]
          try exact LeV.refl _
        · simp (maxSteps := 3000000) (disch := first | exact trivial | assumption | omega | exact rOk | exact rCl | exact rNo) only [go_sem, seval]
          try exact fun j hj => absurd hj (by omega)
        · intro x _; simp (maxSteps := 3000000) (disch := first | exact trivial | assumption | omega | exact rOk | exact rCl | exact rNo) only [go_sem, seval]
        intro k hk
        by_cases hkl : k = wa.length
        · subst hkl
          simp (maxSteps := 3000000) (disch := first | exact trivial | assumption | omega | exact rOk | exact rCl | exact rNo) only [go_sem, seval, rbD]
          refine callC hIs ?_ rfl ?_
          · simp (maxSteps := 3000000) (disch := first | exact trivial | assumption | omega | exact rOk | exact rCl | exact rNo) only [go_sem, seval, rbD]
            try exact LesV.cons (LeV.refl _) (LesV.cons (LeV.ro (by rw [hullF_len]) fun j hj => Le.refl _) LesV.nil)
          simp (maxSteps := 3000000) (disch := first | exact trivial | assumption | omega | exact rOk | exact rCl | exact rNo) only [go_sem, seval]
        · have hk' : k < wa.length := by omega
          have hp1 : rsR wa k = rsD (wa.getD k (0, 0)) := rfl
          have hp2 : rsR wb k = rsD (wb.getD k (0, 0)) := rfl
          have q1 := hqa _ (getD_in hk')
          have q2 := hqb _ (getD_in (l := wb) (i := k) (by omega))
          have o1 := (rightB_iff.1 hra).1 _ (getD_in hk')
          have o2 := (rightB_iff.1 hrb).1 _ (getD_in (l := wb) (i := k) (by omega))
          have ht := hullF_succ wa wb k
          have hw := hullF_len wa wb k
          clear hIs
          generalize wa.getD k (0, 0) = pa at *
          generalize wb.getD k (0, 0) = pb at *
          obtain ⟨a1, a2⟩ := pa
          obtain ⟨b1, b2⟩ := pb
          have hLe := ref_Least (l := [a1, a2, b1, b2]) (by simp) (fun q hq => by
            rcases List.mem_cons.1 hq with rfl | hq
            · exact q1.1
            rcases List.mem_cons.1 hq with rfl | hq
            · exact q1.2
            rcases List.mem_cons.1 hq with rfl | hq
            · exact q2.1
            rcases List.mem_cons.1 hq with rfl | hq
            · exact q2.2
            cases hq) (by simp)
          have e3 : leF [a1, a2, b1, b2] ([a1, a2, b1, b2].length - 1) = hullQ (a1, a2) (b1, b2) := leF_hull o1 o2
          rw [e3] at hLe
          generalize hullQ (a1, a2) (b1, b2) = q at *
          simp (maxSteps := 3000000) (disch := first | exact trivial | assumption | omega | exact rOk | exact rCl | exact rNo) only [go_sem, seval, rbD, hp1, hp2]
          refine callCl hLe ?_ rfl ?_
          · simp (maxSteps := 3000000) (disch := first | exact trivial | assumption | omega | exact rOk | exact rCl | exact rNo) only [go_sem, seval, rqlD]
            refine LesV.cons (LeV.ro rfl fun j hj => ?_) LesV.nil
            rcases j with _ | _ | _ | _ | j
            · exact Le.refl _
            · exact Le.refl _
            · exact Le.refl _
            · exact Le.refl _
            · exact absurd hj (by simp)
          simp (maxSteps := 3000000) (disch := first | exact trivial | assumption | omega | exact rOk | exact rCl | exact rNo) only [go_sem, seval, rbD, hp1, hp2]
          refine ⟨.inl trivial, .inr trivial, by omega, by omega, ?_⟩
          refine ⟨k + 1, hk', by show wa.length - (k + 1) < wa.length - k; omega, ?_, ?_⟩
          · simp (maxSteps := 3000000) (disch := first | exact trivial | assumption | omega | exact rOk | exact rCl | exact rNo) only [go_sem, seval, rbD, bxD]
            try exact LeV_int (by omega)
          · simp (maxSteps := 3000000) (disch := first | exact trivial | assumption | omega | exact rOk | exact rCl | exact rNo) only [go_sem, seval, ht]
            exact fun j hj => Le.of_eq (rR_snoc hw hj)
      · subst h
        simp (maxSteps := 3000000) (disch := first | exact trivial | assumption | omega | exact rOk | exact rCl | exact rNo) only [go_sem, seval, tlD]
        refine callC hH ?_ rfl ?_
        · simp (maxSteps := 3000000) (disch := first | exact trivial | assumption | omega | exact rOk | exact rCl | exact rNo) only [go_sem, seval, bxD, qlD]
          try exact LesV.refl _
        simp (maxSteps := 3000000) (disch := first | exact trivial | assumption | omega | exact rOk | exact rCl | exact rNo) only [go_sem, seval, tlD]
        refine callC hH' ?_ rfl ?_
        · simp (maxSteps := 3000000) (disch := first | exact trivial | assumption | omega | exact rOk | exact rCl | exact rNo) only [go_sem, seval, rbD, rqlD]
          try exact LesV.refl _
        simp (maxSteps := 3000000) (disch := first | exact trivial | assumption | omega | exact rOk | exact rCl | exact rNo) only [go_sem, seval, hhh]
        clear hRa hRb rA rB hW hW' hM hM' hHu hH hH' hww hmm hhh
        have hIs := law6_Is (l := hullF wa wb wa.length) (fun p hp => ⟨(hullF_qb hba hbb hl p hp).1.mono (by omega), (hullF_qb hba hbb hl p hp).2.mono (by omega)⟩) (by rw [hullF_len]; omega)
        refine AL.ofN 20 true 6 (fun _ => .unk) (fun k : Nat => k ≤ wa.length) (fun k => wa.length - k) (fun k => [(8, rbD wa), (10, rbD wb), (11, bxD (hullF wa wb wa.length)), (20, .sl 2 k 0 k), (21, .int .i64 k)]) (fun k => [(2, .row false k true 6 k (rsR (hullF wa wb k)))]) 0 (by simp (maxSteps := 3000000) (disch := first | exact trivial | assumption | omega | exact rOk | exact rCl | exact rNo) only [go_sem, seval]) (Nat.zero_le _) ?_ ?_ ?_ ?_
        · simp (maxSteps := 3000000) (disch := first | exact trivial | assumption | omega | exact rOk | exact rCl | exact rNo) only [go_sem, seval, rbD, bxD]
          try exact LeV.refl _
        · simp (maxSteps := 3000000) (disch := first | exact trivial | assumption | omega | exact rOk | exact rCl | exact rNo) only [go_sem, seval]
          try exact fun j hj => absurd hj (by omega)
        · intro x _; simp (maxSteps := 3000000) (disch := first | exact trivial | assumption | omega | exact rOk | exact rCl | exact rNo) only [go_sem, seval]
        intro k hk
        by_cases hkl : k = wa.length
        · subst hkl
          simp (maxSteps := 3000000) (disch := first | exact trivial | assumption | omega | exact rOk | exact rCl | exact rNo) only [go_sem, seval, rbD]
          refine callC hIs ?_ rfl ?_
          · simp (maxSteps := 3000000) (disch := first | exact trivial | assumption | omega | exact rOk | exact rCl | exact rNo) only [go_sem, seval, rbD]
            try exact LesV.cons (LeV.refl _) (LesV.cons (LeV.ro (by rw [hullF_len]) fun j hj => Le.refl _) LesV.nil)
          simp (maxSteps := 3000000) (disch := first | exact trivial | assumption | omega | exact rOk | exact rCl | exact rNo) only [go_sem, seval]
        · have hk' : k < wa.length := by omega
          have hp1 : rsR wa k = rsD (wa.getD k (0, 0)) := rfl
          have hp2 : rsR wb k = rsD (wb.getD k (0, 0)) := rfl
          have q1 := hqa _ (getD_in hk')
          have q2 := hqb _ (getD_in (l := wb) (i := k) (by omega))
          have o1 := (rightB_iff.1 hra).1 _ (getD_in hk')
          have o2 := (rightB_iff.1 hrb).1 _ (getD_in (l := wb) (i := k) (by omega))
          have ht := hullF_succ wa wb k
          have hw := hullF_len wa wb k
          clear hIs
          generalize wa.getD k (0, 0) = pa at *
          generalize wb.getD k (0, 0) = pb at *
          obtain ⟨a1, a2⟩ := pa
          obtain ⟨b1, b2⟩ := pb
          have hLe := ref_Least (l := [a1, a2, b1, b2]) (by simp) (fun q hq => by
            rcases List.mem_cons.1 hq with rfl | hq
            · exact q1.1
            rcases List.mem_cons.1 hq with rfl | hq
            · exact q1.2
            rcases List.mem_cons.1 hq with rfl | hq
            · exact q2.1
            rcases List.mem_cons.1 hq with rfl | hq
            · exact q2.2
            cases hq) (by simp)
          have e3 : leF [a1, a2, b1, b2] ([a1, a2, b1, b2].length - 1) = hullQ (a1, a2) (b1, b2) := leF_hull o1 o2
          rw [e3] at hLe
          generalize hullQ (a1, a2) (b1, b2) = q at *
          simp (maxSteps := 3000000) (disch := first | exact trivial | assumption | omega | exact rOk | exact rCl | exact rNo) only [go_sem, seval, rbD, hp1, hp2]
          refine callCl hLe ?_ rfl ?_
          · simp (maxSteps := 3000000) (disch := first | exact trivial | assumption | omega | exact rOk | exact rCl | exact rNo) only [go_sem, seval, rqlD]
            refine LesV.cons (LeV.ro rfl fun j hj => ?_) LesV.nil
            rcases j with _ | _ | _ | _ | j
            · exact Le.refl _
            · exact Le.refl _
            · exact Le.refl _
            · exact Le.refl _
            · exact absurd hj (by simp)
          simp (maxSteps := 3000000) (disch := first | exact trivial | assumption | omega | exact rOk | exact rCl | exact rNo) only [go_sem, seval, rbD, hp1, hp2]
          refine ⟨.inl trivial, .inr trivial, by omega, by omega, ?_⟩
          refine ⟨k + 1, hk', by show wa.length - (k + 1) < wa.length - k; omega, ?_, ?_⟩
          · simp (maxSteps := 3000000) (disch := first | exact trivial | assumption | omega | exact rOk | exact rCl | exact rNo) only [go_sem, seval, rbD, bxD]
            try exact LeV_int (by omega)
          · simp (maxSteps := 3000000) (disch := first | exact trivial | assumption | omega | exact rOk | exact rCl | exact rNo) only [go_sem, seval, ht]
            exact fun j hj => Le.of_eq (rR_snoc hw hj)
    · have hil' : i < p.length := by omega
      have hi5' : i < 5 := by omega
      have hmem : p.getD i [] ∈ p := by
        rw [List.getD_eq_getElem?_getD, List.getElem?_eq_getElem hil']; exact List.getElem_mem hil'
      have t1 := htp _ hmem
      have hp : tR p i = .str (p.getD i []) := rfl
      have hnx : (p.take (i + 1)).filterMap numO = w ++ (numO (p.getD i [])).toList := by
        rw [List.take_add_one, List.getD_eq_getElem?_getD, List.getElem?_eq_getElem hil', hw, List.filterMap_append]
        simp only [Option.getD_some, Option.toList_some, List.filterMap_cons, List.filterMap_nil]
        cases numO p[i] <;> rfl
      generalize p.getD i [] = x at *
      cases ho : numO x with
      | some q =>
        have hy := law3_Num_yes ho
        rw [ho] at hnx
        have hnx : (p.take (i + 1)).filterMap numO = w ++ [q] := hnx
        have hnx := hnx.symm
        have hl1 : (w ++ [q]).length = w.length + 1 := by rw [List.length_append]; rfl
        clear hw
        simp (maxSteps := 3000000) (disch := first | exact trivial | assumption | omega | exact rOk | exact rCl | exact rNo) only [go_sem, seval, tlD, hp]
        refine callC hy ?_ rfl ?_
        · simp (maxSteps := 3000000) (disch := first | exact trivial | assumption | omega | exact rOk | exact rCl | exact rNo) only [go_sem, seval]
          try exact LesV.refl _
        simp (maxSteps := 3000000) (disch := first | exact trivial | assumption | omega | exact rOk | exact rCl | exact rNo) only [go_sem, seval, tlD, hp]
        refine AReg_anyL 10 [0, 1, 2, 3, 4, 5, 6, 7, 8, 9] rfl rfl (by decide +kernel) ?_
        refine AAny_free 0 [1, 2, 3, 4, 5, 6, 7, 8, 9] (by decide +kernel) rfl ?_
        refine AI_at _ rfl ?_
        simp (maxSteps := 3000000) (disch := first | exact trivial | assumption | omega | exact rOk | exact rCl | exact rNo) only [go_sem, seval, tlD]
        refine AAny_free 1 [2, 3, 4, 5, 6, 7, 8, 9] (by decide +kernel) rfl ?_
        refine AI_at _ rfl ?_
        simp (maxSteps := 3000000) (disch := first | exact trivial | assumption | omega | exact rOk | exact rCl | exact rNo) only [go_sem, seval, tlD]
        refine AAny_free 4 [2, 3, 5, 6, 7, 8, 9] (by decide +kernel) rfl ?_
        refine AI_at _ rfl ?_
        simp (maxSteps := 3000000) (disch := first | exact trivial | assumption | omega | exact rOk | exact rCl | exact rNo) only [go_sem, seval, tlD]
        refine AAny_stab 5 [2, 3, 6, 7, 8, 9] (by decide +kernel) rfl (by simp (maxSteps := 3000000) (disch := first | exact trivial | assumption | omega | exact rOk | exact rCl | exact rNo) only [go_sem, seval, tlD, stab, isVarB, blks, blkss, Op.operands, Call.operands, List.toList_toArray, Array.toList_append, List.all_cons, List.all_nil, Option.isNone_none]) ?_
        refine AI_at _ rfl ?_
        simp (maxSteps := 3000000) (disch := first | exact trivial | assumption | omega | exact rOk | exact rCl | exact rNo) only [go_sem, seval, tlD]
        refine AAny_step [(2, [3, 6, 7, 8, 9]), (6, [2, 3, 7, 8, 9])] (by decide +kernel) rfl ?_
        refine forall_more ?_ ?_
        · refine AI_at _ rfl ?_
          simp (maxSteps := 3000000) (disch := first | exact trivial | assumption | omega | exact rOk | exact rCl | exact rNo) only [go_sem, seval, tlD]
          refine AAny_step [(3, [6, 7, 8, 9]), (6, [3, 7, 8, 9])] (by decide +kernel) rfl ?_
          refine forall_more ?_ ?_
          · refine AI_at _ rfl ?_
            simp (maxSteps := 3000000) (disch := first | exact trivial | assumption | omega | exact rOk | exact rCl | exact rNo) only [go_sem, seval, tlD]
            refine ⟨.inl trivial, .inr trivial, by omega, by omega, ?_⟩
            refine AAny_free 6 [7, 8, 9] (by decide +kernel) rfl ?_
            refine AI_at _ rfl ?_
            simp (maxSteps := 3000000) (disch := first | exact trivial | assumption | omega | exact rOk | exact rCl | exact rNo) only [go_sem, seval, tlD]
            refine AAny_free 7 [8, 9] (by decide +kernel) rfl ?_
            refine AI_at _ rfl ?_
            simp (maxSteps := 3000000) (disch := first | exact trivial | assumption | omega | exact rOk | exact rCl | exact rNo) only [go_sem, seval, tlD]
            refine ⟨.inl trivial, .inr trivial, by omega, by omega, ?_⟩
            refine AAny_free 8 [9] (by decide +kernel) rfl ?_
            refine AI_at _ rfl ?_
            simp (maxSteps := 3000000) (disch := first | exact trivial | assumption | omega | exact rOk | exact rCl | exact rNo) only [go_sem, seval, tlD]
            refine AAny_free 9 [] (by decide +kernel) rfl ?_
            refine AI_at _ rfl ?_
            simp (maxSteps := 3000000) (disch := first | exact trivial | assumption | omega | exact rOk | exact rCl | exact rNo) only [go_sem, seval, tlD]
            refine AAny_end ?_
            refine ⟨(i + 1, w ++ [q]), ⟨hil', hi5', hnx⟩, by show 5 - (i + 1) < 5 - i; omega, ?_, ?_⟩
            · simp (maxSteps := 3000000) (disch := first | exact trivial | assumption | omega | exact rOk | exact rCl | exact rNo) only [go_sem, seval, bxD, rbD, tlD, hl1]
              try exact LeV_int (by omega)
            · simp (maxSteps := 3000000) (disch := first | exact trivial | assumption | omega | exact rOk | exact rCl | exact rNo) only [go_sem, seval, hl1]
              exact ⟨fun j hj => Le.of_eq (qR_snoc rfl hj), fun j hj => Le.of_eq (rqR_snoc rfl hj)⟩
          refine forall_one ?_
          refine AI_at _ rfl ?_
          simp (maxSteps := 3000000) (disch := first | exact trivial | assumption | omega | exact rOk | exact rCl | exact rNo) only [go_sem, seval, tlD]
          refine AAny_free 3 [7, 8, 9] (by decide +kernel) rfl ?_
          refine AI_at _ rfl ?_
          simp (maxSteps := 3000000) (disch := first | exact trivial | assumption | omega | exact rOk | exact rCl | exact rNo) only [go_sem, seval, tlD]
          refine ⟨.inl trivial, .inr trivial, by omega, by omega, ?_⟩
          refine AAny_free 7 [8, 9] (by decide +kernel) rfl ?_
          refine AI_at _ rfl ?_
          simp (maxSteps := 3000000) (disch := first | exact trivial | assumption | omega | exact rOk | exact rCl | exact rNo) only [go_sem, seval, tlD]
          refine ⟨.inl trivial, .inr trivial, by omega, by omega, ?_⟩
          refine AAny_free 8 [9] (by decide +kernel) rfl ?_
          refine AI_at _ rfl ?_
          simp (maxSteps := 3000000) (disch := first | exact trivial | assumption | omega | exact rOk | exact rCl | exact rNo) only [go_sem, seval, tlD]
          refine AAny_free 9 [] (by decide +kernel) rfl ?_
          refine AI_at _ rfl ?_
          simp (maxSteps := 3000000) (disch := first | exact trivial | assumption | omega | exact rOk | exact rCl | exact rNo) only [go_sem, seval, tlD]
          refine AAny_end ?_
          refine ⟨(i + 1, w ++ [q]), ⟨hil', hi5', hnx⟩, by show 5 - (i + 1) < 5 - i; omega, ?_, ?_⟩
          · simp (maxSteps := 3000000) (disch := first | exact trivial | assumption | omega | exact rOk | exact rCl | exact rNo) only [go_sem, seval, bxD, rbD, tlD, hl1]
            try exact LeV_int (by omega)
          · simp (maxSteps := 3000000) (disch := first | exact trivial | assumption | omega | exact rOk | exact rCl | exact rNo) only [go_sem, seval, hl1]
            exact ⟨fun j hj => Le.of_eq (qR_snoc rfl hj), fun j hj => Le.of_eq (rqR_snoc rfl hj)⟩
        refine forall_one ?_
        refine AI_at _ rfl ?_
        simp (maxSteps := 3000000) (disch := first | exact trivial | assumption | omega | exact rOk | exact rCl | exact rNo) only [go_sem, seval, tlD]
        refine AAny_free 2 [3, 7, 8, 9] (by decide +kernel) rfl ?_
        refine AI_at _ rfl ?_
        simp (maxSteps := 3000000) (disch := first | exact trivial | assumption | omega | exact rOk | exact rCl | exact rNo) only [go_sem, seval, tlD]
        refine AAny_free 3 [7, 8, 9] (by decide +kernel) rfl ?_
        refine AI_at _ rfl ?_
        simp (maxSteps := 3000000) (disch := first | exact trivial | assumption | omega | exact rOk | exact rCl | exact rNo) only [go_sem, seval, tlD]
        refine ⟨.inl trivial, .inr trivial, by omega, by omega, ?_⟩
        refine AAny_free 7 [8, 9] (by decide +kernel) rfl ?_
        refine AI_at _ rfl ?_
        simp (maxSteps := 3000000) (disch := first | exact trivial | assumption | omega | exact rOk | exact rCl | exact rNo) only [go_sem, seval, tlD]
        refine ⟨.inl trivial, .inr trivial, by omega, by omega, ?_⟩
        refine AAny_free 8 [9] (by decide +kernel) rfl ?_
        refine AI_at _ rfl ?_
        simp (maxSteps := 3000000) (disch := first | exact trivial | assumption | omega | exact rOk | exact rCl | exact rNo) only [go_sem, seval, tlD]
        refine AAny_free 9 [] (by decide +kernel) rfl ?_
        refine AI_at _ rfl ?_
        simp (maxSteps := 3000000) (disch := first | exact trivial | assumption | omega | exact rOk | exact rCl | exact rNo) only [go_sem, seval, tlD]
        refine AAny_end ?_
        refine ⟨(i + 1, w ++ [q]), ⟨hil', hi5', hnx⟩, by show 5 - (i + 1) < 5 - i; omega, ?_, ?_⟩
        · simp (maxSteps := 3000000) (disch := first | exact trivial | assumption | omega | exact rOk | exact rCl | exact rNo) only [go_sem, seval, bxD, rbD, tlD, hl1]
          try exact LeV_int (by omega)
        · simp (maxSteps := 3000000) (disch := first | exact trivial | assumption | omega | exact rOk | exact rCl | exact rNo) only [go_sem, seval, hl1]
          exact ⟨fun j hj => Le.of_eq (qR_snoc rfl hj), fun j hj => Le.of_eq (rqR_snoc rfl hj)⟩
      | none =>
        have hy := law3_Num_no t1 ho
        rw [ho] at hnx
        have hnx : (p.take (i + 1)).filterMap numO = w := hnx.trans (List.append_nil _)
        have hnx := hnx.symm
        clear hw
        simp (maxSteps := 3000000) (disch := first | exact trivial | assumption | omega | exact rOk | exact rCl | exact rNo) only [go_sem, seval, tlD, hp]
        refine callC hy ?_ rfl ?_
        · simp (maxSteps := 3000000) (disch := first | exact trivial | assumption | omega | exact rOk | exact rCl | exact rNo) only [go_sem, seval]
          try exact LesV.refl _
        simp (maxSteps := 3000000) (disch := first | exact trivial | assumption | omega | exact rOk | exact rCl | exact rNo) only [go_sem, seval, tlD, hp]
        refine ⟨(i + 1, w), ⟨hil', hi5', hnx⟩, by show 5 - (i + 1) < 5 - i; omega, ?_, ?_⟩
        · simp (maxSteps := 3000000) (disch := first | exact trivial | assumption | omega | exact rOk | exact rCl | exact rNo) only [go_sem, seval, bxD, rbD, tlD]
          try exact LeV_int (by omega)
        · simp (maxSteps := 3000000) (disch := first | exact trivial | assumption | omega | exact rOk | exact rCl | exact rNo) only [go_sem, seval]
          exact ⟨fun _ _ => trivial, fun _ _ => trivial⟩
  case neg =>
    have ht' : twoB wa wb = false := by simpa using ht
    have hHu := box_Hull_no hqa hqb (by omega) (by omega) ht'
    simp (maxSteps := 3000000) (disch := first | exact trivial | assumption | omega | exact rOk | exact rCl | exact rNo) only [go_sem, seval]
    refine callC hHu ?_ rfl ?_
    · simp (maxSteps := 3000000) (disch := first | exact trivial | assumption | omega | exact rOk | exact rCl | exact rNo) only [go_sem, seval]
      try exact LesV.refl _
    simp (maxSteps := 3000000) (disch := first | exact trivial | assumption | omega | exact rOk | exact rCl | exact rNo) only [go_sem, seval]
    refine callC rA ?_ rfl ?_
    · simp (maxSteps := 3000000) (disch := first | exact trivial | assumption | omega | exact rOk | exact rCl | exact rNo) only [go_sem, seval]
      try exact LesV.refl _
    rcases Bool.eq_false_or_eq_true (rightB wa) with hra | hra
    case inr =>
      rw [hra]
      simp (maxSteps := 3000000) (disch := first | exact trivial | assumption | omega | exact rOk | exact rCl | exact rNo) only [go_sem, seval, rbD]
      refine callC hW ?_ rfl ?_
      · simp (maxSteps := 3000000) (disch := first | exact trivial | assumption | omega | exact rOk | exact rCl | exact rNo) only [go_sem, seval, rbD]
        try exact LesV.refl _
      simp (maxSteps := 3000000) (disch := first | exact trivial | assumption | omega | exact rOk | exact rCl | exact rNo) only [go_sem, seval]
      refine callC hW' ?_ rfl ?_
      · simp (maxSteps := 3000000) (disch := first | exact trivial | assumption | omega | exact rOk | exact rCl | exact rNo) only [go_sem, seval]
        try exact LesV.refl _
      simp (maxSteps := 3000000) (disch := first | exact trivial | assumption | omega | exact rOk | exact rCl | exact rNo) only [go_sem, seval, hww]
      refine callC hM ?_ rfl ?_
      · simp (maxSteps := 3000000) (disch := first | exact trivial | assumption | omega | exact rOk | exact rCl | exact rNo) only [go_sem, seval]
        try exact LesV.refl _
      simp (maxSteps := 3000000) (disch := first | exact trivial | assumption | omega | exact rOk | exact rCl | exact rNo) only [go_sem, seval]
      refine callC hM' ?_ rfl ?_
      · simp (maxSteps := 3000000) (disch := first | exact trivial | assumption | omega | exact rOk | exact rCl | exact rNo) only [go_sem, seval]
        try exact LesV.refl _
      simp (maxSteps := 3000000) (disch := first | exact trivial | assumption | omega | exact rOk | exact rCl | exact rNo) only [go_sem, seval, hmm, tlD]
      refine AL.ofNN 14 15 true true 3 3 (fun _ => .unk) (fun _ => .unk) (NmP p) (fun s => 5 - s.1) (fun s => [(2, tlD p), (7, bxD wa), (8, rbD wa), (9, bxD wb), (10, rbD wb), (11, .nils), (13, .bool false), (14, .sl 0 s.2.length 0 s.2.length), (15, .sl 1 s.2.length 0 s.2.length), (16, .int .i64 s.1)]) (fun s => [(0, .row false s.2.length true 3 s.2.length (qR s.2)), (1, .row false s.2.length true 3 s.2.length (rqR s.2))]) (0, []) (by simp (maxSteps := 3000000) (disch := first | exact trivial | assumption | omega | exact rOk | exact rCl | exact rNo) only [go_sem, seval]) (by simp (maxSteps := 3000000) (disch := first | exact trivial | assumption | omega | exact rOk | exact rCl | exact rNo) only [go_sem, seval]) (by omega) ⟨Nat.zero_le _, Nat.zero_le _, rfl⟩ ?_ ?_ ?_ ?_
      · simp (maxSteps := 3000000) (disch := first | exact trivial | assumption | omega | exact rOk | exact rCl | exact rNo) only [go_sem, seval, bxD, rbD, tlD, List.length_nil]
        try exact LeV.refl _
      · simp (maxSteps := 3000000) (disch := first | exact trivial | assumption | omega | exact rOk | exact rCl | exact rNo) only [go_sem, seval, List.length_nil]
        try exact ⟨fun j hj => absurd hj (by omega), fun j hj => absurd hj (by omega)⟩
      · intro x _; simp (maxSteps := 3000000) (disch := first | exact trivial | assumption | omega | exact rOk | exact rCl | exact rNo) only [go_sem, seval]
      rintro ⟨i, w⟩ ⟨hi, hi5, hw⟩
      simp only at hi hi5 hw
      have hwl : w.length ≤ 5 := by rw [hw]; exact Nat.le_trans (List.length_filterMap_le _ _) (by rw [List.length_take]; omega)
      by_cases hend : i = p.length ∨ i = 5
      · have hr : numL p = w := by
          rw [hw]; unfold numL
          rcases hend with h | h
          · rw [h, List.take_length, List.take_of_length_le (by omega)]
          · rw [h]
        have hqw := numL_qs p
        rw [hr] at hqw
        have hH := box_Has hqa hqw (by omega) (by omega)
        have hH' := ref_BoxHas hqa hqw (by omega) (by omega)
        generalize (hoB wa w && allB (fun j => hasB (wa.getD j (0, 0)) (w.getD j 0)) wa.length) = vh at *
        have hhh : (vh != vh) = false := by cases vh <;> rfl
        clear hw hr
        have hgo : ∀ (b1 b2 : Bool), True := fun _ _ => trivial
        have hcond : (i = p.length ∧ i ≤ 5) ∨ (i = 5 ∧ i < p.length) := by omega
        rcases hcond with ⟨h, h5⟩ | ⟨h, h5⟩
        · subst h
          simp (maxSteps := 3000000) (disch := first | exact trivial | assumption | omega | exact rOk | exact rCl | exact rNo) only [go_sem, seval, tlD]
          refine callC hH ?_ rfl ?_
          · simp (maxSteps := 3000000) (disch := first | exact trivial | assumption | omega | exact rOk | exact rCl | exact rNo) only [go_sem, seval, bxD, qlD]
            try exact LesV.refl _
          simp (maxSteps := 3000000) (disch := first | exact trivial | assumption | omega | exact rOk | exact rCl | exact rNo) only [go_sem, seval, tlD]
          refine callC hH' ?_ rfl ?_
          · simp (maxSteps := 3000000) (disch := first | exact trivial | assumption | omega | exact rOk | exact rCl | exact rNo) only [go_sem, seval, rbD, rqlD]
            try exact LesV.refl _
          simp (maxSteps := 3000000) (disch := first | exact trivial | assumption | omega | exact rOk | exact rCl | exact rNo) only [go_sem, seval, hhh]
        · subst h
          simp (maxSteps := 3000000) (disch := first | exact trivial | assumption | omega | exact rOk | exact rCl | exact rNo) only [go_sem, seval, tlD]
          refine callC hH ?_ rfl ?_
          · simp (maxSteps := 3000000) (disch := first | exact trivial | assumption | omega | exact rOk | exact rCl | exact rNo) only [go_sem, seval, bxD, qlD]
            try exact LesV.refl _
          simp (maxSteps := 3000000) (disch := first | exact trivial | assumption | omega | exact rOk | exact rCl | exact rNo) only [go_sem, seval, tlD]
          refine callC hH' ?_ rfl ?_
          · simp (maxSteps := 3000000) (disch := first | exact trivial | assumption | omega | exact rOk | exact rCl | exact rNo) only [go_sem, seval, rbD, rqlD]
            try exact LesV.refl _
          simp (maxSteps := 3000000) (disch := first | exact trivial | assumption | omega | exact rOk | exact rCl | exact rNo) only [go_sem, seval, hhh]
      · have hil' : i < p.length := by omega
        have hi5' : i < 5 := by omega
        have hmem : p.getD i [] ∈ p := by
          rw [List.getD_eq_getElem?_getD, List.getElem?_eq_getElem hil']; exact List.getElem_mem hil'
        have t1 := htp _ hmem
        have hp : tR p i = .str (p.getD i []) := rfl
        have hnx : (p.take (i + 1)).filterMap numO = w ++ (numO (p.getD i [])).toList := by
          rw [List.take_add_one, List.getD_eq_getElem?_getD, List.getElem?_eq_getElem hil', hw, List.filterMap_append]
          simp only [Option.getD_some, Option.toList_some, List.filterMap_cons, List.filterMap_nil]
          cases numO p[i] <;> rfl
        generalize p.getD i [] = x at *
        cases ho : numO x with
        | some q =>
          have hy := law3_Num_yes ho
          rw [ho] at hnx
          have hnx : (p.take (i + 1)).filterMap numO = w ++ [q] := hnx
          have hnx := hnx.symm
          have hl1 : (w ++ [q]).length = w.length + 1 := by rw [List.length_append]; rfl
          clear hw
          simp (maxSteps := 3000000) (disch := first | exact trivial | assumption | omega | exact rOk | exact rCl | exact rNo) only [go_sem, seval, tlD, hp]
          refine callC hy ?_ rfl ?_
          · simp (maxSteps := 3000000) (disch := first | exact trivial | assumption | omega | exact rOk | exact rCl | exact rNo) only [go_sem, seval]
            try exact LesV.refl _
          simp (maxSteps := 3000000) (disch := first | exact trivial | assumption | omega | exact rOk | exact rCl | exact rNo) only [go_sem, seval, tlD, hp]
          refine AReg_anyL 10 [0, 1, 2, 3, 4, 5, 6, 7, 8, 9] rfl rfl (by decide +kernel) ?_
          refine AAny_free 0 [1, 2, 3, 4, 5, 6, 7, 8, 9] (by decide +kernel) rfl ?_
          refine AI_at _ rfl ?_
          simp (maxSteps := 3000000) (disch := first | exact trivial | assumption | omega | exact rOk | exact rCl | exact rNo) only [go_sem, seval, tlD]
          refine AAny_free 1 [2, 3, 4, 5, 6, 7, 8, 9] (by decide +kernel) rfl ?_
          refine AI_at _ rfl ?_
          simp (maxSteps := 3000000) (disch := first | exact trivial | assumption | omega | exact rOk | exact rCl | exact rNo) only [go_sem, seval, tlD]
          refine AAny_free 4 [2, 3, 5, 6, 7, 8, 9] (by decide +kernel) rfl ?_
          refine AI_at _ rfl ?_
          simp (maxSteps := 3000000) (disch := first | exact trivial | assumption | omega | exact rOk | exact rCl | exact rNo) only [go_sem, seval, tlD]
          refine AAny_stab 5 [2, 3, 6, 7, 8, 9] (by decide +kernel) rfl (by simp (maxSteps := 3000000) (disch := first | exact trivial | assumption | omega | exact rOk | exact rCl | exact rNo) only [go_sem, seval, tlD, stab, isVarB, blks, blkss, Op.operands, Call.operands, List.toList_toArray, Array.toList_append, List.all_cons, List.all_nil, Option.isNone_none]) ?_
          refine AI_at _ rfl ?_
          simp (maxSteps := 3000000) (disch := first | exact trivial | assumption | omega | exact rOk | exact rCl | exact rNo) only [go_sem, seval, tlD]
          refine AAny_step [(2, [3, 6, 7, 8, 9]), (6, [2, 3, 7, 8, 9])] (by decide +kernel) rfl ?_
          refine forall_more ?_ ?_
          · refine AI_at _ rfl ?_
            simp (maxSteps := 3000000) (disch := first | exact trivial | assumption | omega | exact rOk | exact rCl | exact rNo) only [go_sem, seval, tlD]
            refine AAny_step [(3, [6, 7, 8, 9]), (6, [3, 7, 8, 9])] (by decide +kernel) rfl ?_
            refine forall_more ?_ ?_
            · refine AI_at _ rfl ?_
              simp (maxSteps := 3000000) (disch := first | exact trivial | assumption | omega | exact rOk | exact rCl | exact rNo) only [go_sem, seval, tlD]
              refine ⟨.inl trivial, .inr trivial, by omega, by omega, ?_⟩
              refine AAny_free 6 [7, 8, 9] (by decide +kernel) rfl ?_
              refine AI_at _ rfl ?_
              simp (maxSteps := 3000000) (disch := first | exact trivial | assumption | omega | exact rOk | exact rCl | exact rNo) only [go_sem, seval, tlD]
              refine AAny_free 7 [8, 9] (by decide +kernel) rfl ?_
              refine AI_at _ rfl ?_
              simp (maxSteps := 3000000) (disch := first | exact trivial | assumption | omega | exact rOk | exact rCl | exact rNo) only [go_sem, seval, tlD]
              refine ⟨.inl trivial, .inr trivial, by omega, by omega, ?_⟩
              refine AAny_free 8 [9] (by decide +kernel) rfl ?_
              refine AI_at _ rfl ?_
              simp (maxSteps := 3000000) (disch := first | exact trivial | assumption | omega | exact rOk | exact rCl | exact rNo) only [go_sem, seval, tlD]
              refine AAny_free 9 [] (by decide +kernel) rfl ?_
              refine AI_at _ rfl ?_
              simp (maxSteps := 3000000) (disch := first | exact trivial | assumption | omega | exact rOk | exact rCl | exact rNo) only [go_sem, seval, tlD]
              refine AAny_end ?_
              refine ⟨(i + 1, w ++ [q]), ⟨hil', hi5', hnx⟩, by show 5 - (i + 1) < 5 - i; omega, ?_, ?_⟩
              · simp (maxSteps := 3000000) (disch := first | exact trivial | assumption | omega | exact rOk | exact rCl | exact rNo) only [go_sem, seval, bxD, rbD, tlD, hl1]
                try exact LeV_int (by omega)
              · simp (maxSteps := 3000000) (disch := first | exact trivial | assumption | omega | exact rOk | exact rCl | exact rNo) only [go_sem, seval, hl1]
                exact ⟨fun j hj => Le.of_eq (qR_snoc rfl hj), fun j hj => Le.of_eq (rqR_snoc rfl hj)⟩
            refine forall_one ?_
            refine AI_at _ rfl ?_
            simp (maxSteps := 3000000) (disch := first | exact trivial | assumption | omega | exact rOk | exact rCl | exact rNo) only [go_sem, seval, tlD]
            refine AAny_free 3 [7, 8, 9] (by decide +kernel) rfl ?_
            refine AI_at _ rfl ?_
            simp (maxSteps := 3000000) (disch := first | exact trivial | assumption | omega | exact rOk | exact rCl | exact rNo) only [go_sem, seval, tlD]
            refine ⟨.inl trivial, .inr trivial, by omega, by omega, ?_⟩
            refine AAny_free 7 [8, 9] (by decide +kernel) rfl ?_
            refine AI_at _ rfl ?_
            simp (maxSteps := 3000000) (disch := first | exact trivial | assumption | omega | exact rOk | exact rCl | exact rNo) only [go_sem, seval, tlD]
            refine ⟨.inl trivial, .inr trivial, by omega, by omega, ?_⟩
            refine AAny_free 8 [9] (by decide +kernel) rfl ?_
            refine AI_at _ rfl ?_
            simp (maxSteps := 3000000) (disch := first | exact trivial | assumption | omega | exact rOk | exact rCl | exact rNo) only [go_sem, seval, tlD]
            refine AAny_free 9 [] (by decide +kernel) rfl ?_
            refine AI_at _ rfl ?_
            simp (maxSteps := 3000000) (disch := first | exact trivial | assumption | omega | exact rOk | exact rCl | exact rNo) only [go_sem, seval, tlD]
            refine AAny_end ?_
            refine ⟨(i + 1, w ++ [q]), ⟨hil', hi5', hnx⟩, by show 5 - (i + 1) < 5 - i; omega, ?_, ?_⟩
            · simp (maxSteps := 3000000) (disch := first | exact trivial | assumption | omega | exact rOk | exact rCl | exact rNo) only [go_sem, seval, bxD, rbD, tlD, hl1]
              try exact LeV_int (by omega)
            · simp (maxSteps := 3000000) (disch := first | exact trivial | assumption | omega | exact rOk | exact rCl | exact rNo) only [go_sem, seval, hl1]
              exact ⟨fun j hj => Le.of_eq (qR_snoc rfl hj), fun j hj => Le.of_eq (rqR_snoc rfl hj)⟩
          refine forall_one ?_
          refine AI_at _ rfl ?_
          simp (maxSteps := 3000000) (disch := first | exact trivial | assumption | omega | exact rOk | exact rCl | exact rNo) only [go_sem, seval, tlD]
          refine AAny_free 2 [3, 7, 8, 9] (by decide +kernel) rfl ?_
          refine AI_at _ rfl ?_
          simp (maxSteps := 3000000) (disch := first | exact trivial | assumption | omega | exact rOk | exact rCl | exact rNo) only [go_sem, seval, tlD]
          refine AAny_free 3 [7, 8, 9] (by decide +kernel) rfl ?_
          refine AI_at _ rfl ?_
          simp (maxSteps := 3000000) (disch := first | exact trivial | assumption | omega | exact rOk | exact rCl | exact rNo) only [go_sem, seval, tlD]
          refine ⟨.inl trivial, .inr trivial, by omega, by omega, ?_⟩
          refine AAny_free 7 [8, 9] (by decide +kernel) rfl ?_
          refine AI_at _ rfl ?_
          simp (maxSteps := 3000000) (disch := first | exact trivial | assumption | omega | exact rOk | exact rCl | exact rNo) only [go_sem, seval, tlD]
          refine ⟨.inl trivial, .inr trivial, by omega, by omega, ?_⟩
          refine AAny_free 8 [9] (by decide +kernel) rfl ?_
          refine AI_at _ rfl ?_
          simp (maxSteps := 3000000) (disch := first | exact trivial | assumption | omega | exact rOk | exact rCl | exact rNo) only [go_sem, seval, tlD]
          refine AAny_free 9 [] (by decide +kernel) rfl ?_
          refine AI_at _ rfl ?_
          simp (maxSteps := 3000000) (disch := first | exact trivial | assumption | omega | exact rOk | exact rCl | exact rNo) only [go_sem, seval, tlD]
          refine AAny_end ?_
          refine ⟨(i + 1, w ++ [q]), ⟨hil', hi5', hnx⟩, by show 5 - (i + 1) < 5 - i; omega, ?_, ?_⟩
          · simp (maxSteps := 3000000) (disch := first | exact trivial | assumption | omega | exact rOk | exact rCl | exact rNo) only [go_sem, seval, bxD, rbD, tlD, hl1]
            try exact LeV_int (by omega)
          · simp (maxSteps := 3000000) (disch := first | exact trivial | assumption | omega | exact rOk | exact rCl | exact rNo) only [go_sem, seval, hl1]
            exact ⟨fun j hj => Le.of_eq (qR_snoc rfl hj), fun j hj => Le.of_eq (rqR_snoc rfl hj)⟩
        | none =>
          have hy := law3_Num_no t1 ho
          rw [ho] at hnx
          have hnx : (p.take (i + 1)).filterMap numO = w := hnx.trans (List.append_nil _)
          have hnx := hnx.symm
          clear hw
          simp (maxSteps := 3000000) (disch := first | exact trivial | assumption | omega | exact rOk | exact rCl | exact rNo) only [go_sem, seval, tlD, hp]
          refine callC hy ?_ rfl ?_
          · simp (maxSteps := 3000000) (disch := first | exact trivial | assumption | omega | exact rOk | exact rCl | exact rNo) only [go_sem, seval]
            try exact LesV.refl _
          simp (maxSteps := 3000000) (disch := first | exact trivial | assumption | omega | exact rOk | exact rCl | exact rNo) only [go_sem, seval, tlD, hp]
          refine ⟨(i + 1, w), ⟨hil', hi5', hnx⟩, by show 5 - (i + 1) < 5 - i; omega, ?_, ?_⟩
          · simp (maxSteps := 3000000) (disch := first | exact trivial | assumption | omega | exact rOk | exact rCl | exact rNo) only [go_sem, seval, bxD, rbD, tlD]
            try exact LeV_int (by omega)
          · simp (maxSteps := 3000000) (disch := first | exact trivial | assumption | omega | exact rOk | exact rCl | exact rNo) only [go_sem, seval]
            exact ⟨fun _ _ => trivial, fun _ _ => trivial⟩
    case inl =>
    rw [hra]
    simp (maxSteps := 3000000) (disch := first | exact trivial | assumption | omega | exact rOk | exact rCl | exact rNo) only [go_sem, seval]
    refine callC rB ?_ rfl ?_
    · simp (maxSteps := 3000000) (disch := first | exact trivial | assumption | omega | exact rOk | exact rCl | exact rNo) only [go_sem, seval]
      try exact LesV.refl _
    rcases Bool.eq_false_or_eq_true (rightB wb) with hrb | hrb
    case inr =>
      rw [hrb]
      simp (maxSteps := 3000000) (disch := first | exact trivial | assumption | omega | exact rOk | exact rCl | exact rNo) only [go_sem, seval, rbD]
      refine callC hW ?_ rfl ?_
      · simp (maxSteps := 3000000) (disch := first | exact trivial | assumption | omega | exact rOk | exact rCl | exact rNo) only [go_sem, seval, rbD]
        try exact LesV.refl _
      simp (maxSteps := 3000000) (disch := first | exact trivial | assumption | omega | exact rOk | exact rCl | exact rNo) only [go_sem, seval]
      refine callC hW' ?_ rfl ?_
      · simp (maxSteps := 3000000) (disch := first | exact trivial | assumption | omega | exact rOk | exact rCl | exact rNo) only [go_sem, seval]
        try exact LesV.refl _
      simp (maxSteps := 3000000) (disch := first | exact trivial | assumption | omega | exact rOk | exact rCl | exact rNo) only [go_sem, seval, hww]
      refine callC hM ?_ rfl ?_
      · simp (maxSteps := 3000000) (disch := first | exact trivial | assumption | omega | exact rOk | exact rCl | exact rNo) only [go_sem, seval]
        try exact LesV.refl _
      simp (maxSteps := 3000000) (disch := first | exact trivial | assumption | omega | exact rOk | exact rCl | exact rNo) only [go_sem, seval]
      refine callC hM' ?_ rfl ?_
      · simp (maxSteps := 3000000) (disch := first | exact trivial | assumption | omega | exact rOk | exact rCl | exact rNo) only [go_sem, seval]
        try exact LesV.refl _
      simp (maxSteps := 3000000) (disch := first | exact trivial | assumption | omega | exact rOk | exact rCl | exact rNo) only [go_sem, seval, hmm, tlD]
      refine AL.ofNN 14 15 true true 3 3 (fun _ => .unk) (fun _ => .unk) (NmP p) (fun s => 5 - s.1) (fun s => [(2, tlD p), (7, bxD wa), (8, rbD wa), (9, bxD wb), (10, rbD wb), (11, .nils), (13, .bool false), (14, .sl 0 s.2.length 0 s.2.length), (15, .sl 1 s.2.length 0 s.2.length), (16, .int .i64 s.1)]) (fun s => [(0, .row false s.2.length true 3 s.2.length (qR s.2)), (1, .row false s.2.length true 3 s.2.length (rqR s.2))]) (0, []) (by simp (maxSteps := 3000000) (disch := first | exact trivial | assumption | omega | exact rOk | exact rCl | exact rNo) only [go_sem, seval]) (by simp (maxSteps := 3000000) (disch := first | exact trivial | assumption | omega | exact rOk | exact rCl | exact rNo) only [go_sem, seval]) (by omega) ⟨Nat.zero_le _, Nat.zero_le _, rfl⟩ ?_ ?_ ?_ ?_
      · simp (maxSteps := 3000000) (disch := first | exact trivial | assumption | omega | exact rOk | exact rCl | exact rNo) only [go_sem, seval, bxD, rbD, tlD, List.length_nil]
        try exact LeV.refl _
      · simp (maxSteps := 3000000) (disch := first | exact trivial | assumption | omega | exact rOk | exact rCl | exact rNo) only [go_sem, seval, List.length_nil]
        try exact ⟨fun j hj => absurd hj (by omega), fun j hj => absurd hj (by omega)⟩
      · intro x _; simp (maxSteps := 3000000) (disch := first | exact trivial | assumption | omega | exact rOk | exact rCl | exact rNo) only [go_sem, seval]
      rintro ⟨i, w⟩ ⟨hi, hi5, hw⟩
      simp only at hi hi5 hw
      have hwl : w.length ≤ 5 := by rw [hw]; exact Nat.le_trans (List.length_filterMap_le _ _) (by rw [List.length_take]; omega)
      by_cases hend : i = p.length ∨ i = 5
      · have hr : numL p = w := by
          rw [hw]; unfold numL
          rcases hend with h | h
          · rw [h, List.take_length, List.take_of_length_le (by omega)]
          · rw [h]
        have hqw := numL_qs p
        rw [hr] at hqw
        have hH := box_Has hqa hqw (by omega) (by omega)
        have hH' := ref_BoxHas hqa hqw (by omega) (by omega)
        generalize (hoB wa w && allB (fun j => hasB (wa.getD j (0, 0)) (w.getD j 0)) wa.length) = vh at *
        have hhh : (vh != vh) = false := by cases vh <;> rfl
        clear hw hr
        have hgo : ∀ (b1 b2 : Bool), True := fun _ _ => trivial
        have hcond : (i = p.length ∧ i ≤ 5) ∨ (i = 5 ∧ i < p.length) := by omega
        rcases hcond with ⟨h, h5⟩ | ⟨h, h5⟩
        · subst h
          simp (maxSteps := 3000000) (disch := first | exact trivial | assumption | omega | exact rOk | exact rCl | exact rNo) only [go_sem, seval, tlD]
          refine callC hH ?_ rfl ?_
          · simp (maxSteps := 3000000) (disch := first | exact trivial | assumption | omega | exact rOk | exact rCl | exact rNo) only [go_sem, seval, bxD, qlD]
            try exact LesV.refl _
          simp (maxSteps := 3000000) (disch := first | exact trivial | assumption | omega | exact rOk | exact rCl | exact rNo) only [go_sem, seval, tlD]
          refine callC hH' ?_ rfl ?_
          · simp (maxSteps := 3000000) (disch := first | exact trivial | assumption | omega | exact rOk | exact rCl | exact rNo) only [go_sem, seval, rbD, rqlD]
            try exact LesV.refl _
          simp (maxSteps := 3000000) (disch := first | exact trivial | assumption | omega | exact rOk | exact rCl | exact rNo) only [go_sem, seval, hhh]
        · subst h
          simp (maxSteps := 3000000) (disch := first | exact trivial | assumption | omega | exact rOk | exact rCl | exact rNo) only [go_sem, seval, tlD]
          refine callC hH ?_ rfl ?_
          · simp (maxSteps := 3000000) (disch := first | exact trivial | assumption | omega | exact rOk | exact rCl | exact rNo) only [go_sem, seval, bxD, qlD]
            try exact LesV.refl _
          simp (maxSteps := 3000000) (disch := first | exact trivial | assumption | omega | exact rOk | exact rCl | exact rNo) only [go_sem, seval, tlD]
          refine callC hH' ?_ rfl ?_
          · simp (maxSteps := 3000000) (disch := first | exact trivial | assumption | omega | exact rOk | exact rCl | exact rNo) only [go_sem, seval, rbD, rqlD]
            try exact LesV.refl _
          simp (maxSteps := 3000000) (disch := first | exact trivial | assumption | omega | exact rOk | exact rCl | exact rNo) only [go_sem, seval, hhh]
      · have hil' : i < p.length := by omega
        have hi5' : i < 5 := by omega
        have hmem : p.getD i [] ∈ p := by
          rw [List.getD_eq_getElem?_getD, List.getElem?_eq_getElem hil']; exact List.getElem_mem hil'
        have t1 := htp _ hmem
        have hp : tR p i = .str (p.getD i []) := rfl
        have hnx : (p.take (i + 1)).filterMap numO = w ++ (numO (p.getD i [])).toList := by
          rw [List.take_add_one, List.getD_eq_getElem?_getD, List.getElem?_eq_getElem hil', hw, List.filterMap_append]
          simp only [Option.getD_some, Option.toList_some, List.filterMap_cons, List.filterMap_nil]
          cases numO p[i] <;> rfl
        generalize p.getD i [] = x at *
        cases ho : numO x with
        | some q =>
          have hy := law3_Num_yes ho
          rw [ho] at hnx
          have hnx : (p.take (i + 1)).filterMap numO = w ++ [q] := hnx
          have hnx := hnx.symm
          have hl1 : (w ++ [q]).length = w.length + 1 := by rw [List.length_append]; rfl
          clear hw
          simp (maxSteps := 3000000) (disch := first | exact trivial | assumption | omega | exact rOk | exact rCl | exact rNo) only [go_sem, seval, tlD, hp]
          refine callC hy ?_ rfl ?_
          · simp (maxSteps := 3000000) (disch := first | exact trivial | assumption | omega | exact rOk | exact rCl | exact rNo) only [go_sem, seval]
            try exact LesV.refl _
          simp (maxSteps := 3000000) (disch := first | exact trivial | assumption | omega | exact rOk | exact rCl | exact rNo) only [go_sem, seval, tlD, hp]
          refine AReg_anyL 10 [0, 1, 2, 3, 4, 5, 6, 7, 8, 9] rfl rfl (by decide +kernel) ?_
          refine AAny_free 0 [1, 2, 3, 4, 5, 6, 7, 8, 9] (by decide +kernel) rfl ?_
          refine AI_at _ rfl ?_
          simp (maxSteps := 3000000) (disch := first | exact trivial | assumption | omega | exact rOk | exact rCl | exact rNo) only [go_sem, seval, tlD]
          refine AAny_free 1 [2, 3, 4, 5, 6, 7, 8, 9] (by decide +kernel) rfl ?_
          refine AI_at _ rfl ?_
          simp (maxSteps := 3000000) (disch := first | exact trivial | assumption | omega | exact rOk | exact rCl | exact rNo) only [go_sem, seval, tlD]
          refine AAny_free 4 [2, 3, 5, 6, 7, 8, 9] (by decide +kernel) rfl ?_
          refine AI_at _ rfl ?_
          simp (maxSteps := 3000000) (disch := first | exact trivial | assumption | omega | exact rOk | exact rCl | exact rNo) only [go_sem, seval, tlD]
          refine AAny_stab 5 [2, 3, 6, 7, 8, 9] (by decide +kernel) rfl (by simp (maxSteps := 3000000) (disch := first | exact trivial | assumption | omega | exact rOk | exact rCl | exact rNo) only [go_sem, seval, tlD, stab, isVarB, blks, blkss, Op.operands, Call.operands, List.toList_toArray, Array.toList_append, List.all_cons, List.all_nil, Option.isNone_none]) ?_
          refine AI_at _ rfl ?_
          simp (maxSteps := 3000000) (disch := first | exact trivial | assumption | omega | exact rOk | exact rCl | exact rNo) only [go_sem, seval, tlD]
          refine AAny_step [(2, [3, 6, 7, 8, 9]), (6, [2, 3, 7, 8, 9])] (by decide +kernel) rfl ?_
          refine forall_more ?_ ?_
          · refine AI_at _ rfl ?_
            simp (maxSteps := 3000000) (disch := first | exact trivial | assumption | omega | exact rOk | exact rCl | exact rNo) only [go_sem, seval, tlD]
            refine AAny_step [(3, [6, 7, 8, 9]), (6, [3, 7, 8, 9])] (by decide +kernel) rfl ?_
            refine forall_more ?_ ?_
            · refine AI_at _ rfl ?_
              simp (maxSteps := 3000000) (disch := first | exact trivial | assumption | omega | exact rOk | exact rCl | exact rNo) only [go_sem, seval, tlD]
              refine ⟨.inl trivial, .inr trivial, by omega, by omega, ?_⟩
              refine AAny_free 6 [7, 8, 9] (by decide +kernel) rfl ?_
              refine AI_at _ rfl ?_
              simp (maxSteps := 3000000) (disch := first | exact trivial | assumption | omega | exact rOk | exact rCl | exact rNo) only [go_sem, seval, tlD]
              refine AAny_free 7 [8, 9] (by decide +kernel) rfl ?_
              refine AI_at _ rfl ?_
              simp (maxSteps := 3000000) (disch := first | exact trivial | assumption | omega | exact rOk | exact rCl | exact rNo) only [go_sem, seval, tlD]
              refine ⟨.inl trivial, .inr trivial, by omega, by omega, ?_⟩
              refine AAny_free 8 [9] (by decide +kernel) rfl ?_
              refine AI_at _ rfl ?_
              simp (maxSteps := 3000000) (disch := first | exact trivial | assumption | omega | exact rOk | exact rCl | exact rNo) only [go_sem, seval, tlD]
              refine AAny_free 9 [] (by decide +kernel) rfl ?_
              refine AI_at _ rfl ?_
              simp (maxSteps := 3000000) (disch := first | exact trivial | assumption | omega | exact rOk | exact rCl | exact rNo) only [go_sem, seval, tlD]
              refine AAny_end ?_
              refine ⟨(i + 1, w ++ [q]), ⟨hil', hi5', hnx⟩, by show 5 - (i + 1) < 5 - i; omega, ?_, ?_⟩
              · simp (maxSteps := 3000000) (disch := first | exact trivial | assumption | omega | exact rOk | exact rCl | exact rNo) only [go_sem, seval, bxD, rbD, tlD, hl1]
                try exact LeV_int (by omega)
              · simp (maxSteps := 3000000) (disch := first | exact trivial | assumption | omega | exact rOk | exact rCl | exact rNo) only [go_sem, seval, hl1]
                exact ⟨fun j hj => Le.of_eq (qR_snoc rfl hj), fun j hj => Le.of_eq (rqR_snoc rfl hj)⟩
            refine forall_one ?_
            refine AI_at _ rfl ?_
            simp (maxSteps := 3000000) (disch := first | exact trivial | assumption | omega | exact rOk | exact rCl | exact rNo) only [go_sem, seval, tlD]
            refine AAny_free 3 [7, 8, 9] (by decide +kernel) rfl ?_
            refine AI_at _ rfl ?_
            simp (maxSteps := 3000000) (disch := first | exact trivial | assumption | omega | exact rOk | exact rCl | exact rNo) only [go_sem, seval, tlD]
            refine ⟨.inl trivial, .inr trivial, by omega, by omega, ?_⟩
            refine AAny_free 7 [8, 9] (by decide +kernel) rfl ?_
            refine AI_at _ rfl ?_
            simp (maxSteps := 3000000) (disch := first | exact trivial | assumption | omega | exact rOk | exact rCl | exact rNo) only [go_sem, seval, tlD]
            refine ⟨.inl trivial, .inr trivial, by omega, by omega, ?_⟩
            refine AAny_free 8 [9] (by decide +kernel) rfl ?_
            refine AI_at _ rfl ?_
            simp (maxSteps := 3000000) (disch := first | exact trivial | assumption | omega | exact rOk | exact rCl | exact rNo) only [go_sem, seval, tlD]
            refine AAny_free 9 [] (by decide +kernel) rfl ?_
            refine AI_at _ rfl ?_
            simp (maxSteps := 3000000) (disch := first | exact trivial | assumption | omega | exact rOk | exact rCl | exact rNo) only [go_sem, seval, tlD]
            refine AAny_end ?_
            refine ⟨(i + 1, w ++ [q]), ⟨hil', hi5', hnx⟩, by show 5 - (i + 1) < 5 - i; omega, ?_, ?_⟩
            · simp (maxSteps := 3000000) (disch := first | exact trivial | assumption | omega | exact rOk | exact rCl | exact rNo) only [go_sem, seval, bxD, rbD, tlD, hl1]
              try exact LeV_int (by omega)
            · simp (maxSteps := 3000000) (disch := first | exact trivial | assumption | omega | exact rOk | exact rCl | exact rNo) only [go_sem, seval, hl1]
              exact ⟨fun j hj => Le.of_eq (qR_snoc rfl hj), fun j hj => Le.of_eq (rqR_snoc rfl hj)⟩
          refine forall_one ?_
          refine AI_at _ rfl ?_
          simp (maxSteps := 3000000) (disch := first | exact trivial | assumption | omega | exact rOk | exact rCl | exact rNo) only [go_sem, seval, tlD]
          refine AAny_free 2 [3, 7, 8, 9] (by decide +kernel) rfl ?_
          refine AI_at _ rfl ?_
          simp (maxSteps := 3000000) (disch := first | exact trivial | assumption | omega | exact rOk | exact rCl | exact rNo) only [go_sem, seval, tlD]
          refine AAny_free 3 [7, 8, 9] (by decide +kernel) rfl ?_
          refine AI_at _ rfl ?_
          simp (maxSteps := 3000000) (disch := first | exact trivial | assumption | omega | exact rOk | exact rCl | exact rNo) only [go_sem, seval, tlD]
          refine ⟨.inl trivial, .inr trivial, by omega, by omega, ?_⟩
          refine AAny_free 7 [8, 9] (by decide +kernel) rfl ?_
          refine AI_at _ rfl ?_
          simp (maxSteps := 3000000) (disch := first | exact trivial | assumption | omega | exact rOk | exact rCl | exact rNo) only [go_sem, seval, tlD]
          refine ⟨.inl trivial, .inr trivial, by omega, by omega, ?_⟩
          refine AAny_free 8 [9] (by decide +kernel) rfl ?_
          refine AI_at _ rfl ?_
          simp (maxSteps := 3000000) (disch := first | exact trivial | assumption | omega | exact rOk | exact rCl | exact rNo) only [go_sem, seval, tlD]
          refine AAny_free 9 [] (by decide +kernel) rfl ?_
          refine AI_at _ rfl ?_
          simp (maxSteps := 3000000) (disch := first | exact trivial | assumption | omega | exact rOk | exact rCl | exact rNo) only [go_sem, seval, tlD]
          refine AAny_end ?_
          refine ⟨(i + 1, w ++ [q]), ⟨hil', hi5', hnx⟩, by show 5 - (i + 1) < 5 - i; omega, ?_, ?_⟩
          · simp (maxSteps := 3000000) (disch := first | exact trivial | assumption | omega | exact rOk | exact rCl | exact rNo) only [go_sem, seval, bxD, rbD, tlD, hl1]
            try exact LeV_int (by omega)
          · simp (maxSteps := 3000000) (disch := first | exact trivial | assumption | omega | exact rOk | exact rCl | exact rNo) only [go_sem, seval, hl1]
            exact ⟨fun j hj => Le.of_eq (qR_snoc rfl hj), fun j hj => Le.of_eq (rqR_snoc rfl hj)⟩
        | none =>
          have hy := law3_Num_no t1 ho
          rw [ho] at hnx
          have hnx : (p.take (i + 1)).filterMap numO = w := hnx.trans (List.append_nil _)
          have hnx := hnx.symm
          clear hw
          simp (maxSteps := 3000000) (disch := first | exact trivial | assumption | omega | exact rOk | exact rCl | exact rNo) only [go_sem, seval, tlD, hp]
          refine callC hy ?_ rfl ?_
          · simp (maxSteps := 3000000) (disch := first | exact trivial | assumption | omega | exact rOk | exact rCl | exact rNo) only [go_sem, seval]
            try exact LesV.refl _
          simp (maxSteps := 3000000) (disch := first | exact trivial | assumption | omega | exact rOk | exact rCl | exact rNo) only [go_sem, seval, tlD, hp]
          refine ⟨(i + 1, w), ⟨hil', hi5', hnx⟩, by show 5 - (i + 1) < 5 - i; omega, ?_, ?_⟩
          · simp (maxSteps := 3000000) (disch := first | exact trivial | assumption | omega | exact rOk | exact rCl | exact rNo) only [go_sem, seval, bxD, rbD, tlD]
            try exact LeV_int (by omega)
          · simp (maxSteps := 3000000) (disch := first | exact trivial | assumption | omega | exact rOk | exact rCl | exact rNo) only [go_sem, seval]
            exact ⟨fun _ _ => trivial, fun _ _ => trivial⟩
    case inl =>
    rw [hrb]
    have hl : ¬ wa.length = wb.length := fun h => ht (twoB_iff.2 ⟨h, hra, hrb⟩)
    simp (maxSteps := 3000000) (disch := first | exact trivial | assumption | omega | exact rOk | exact rCl | exact rNo) only [go_sem, seval, rbD]
    refine callC hW ?_ rfl ?_
    · simp (maxSteps := 3000000) (disch := first | exact trivial | assumption | omega | exact rOk | exact rCl | exact rNo) only [go_sem, seval, rbD]
      try exact LesV.refl _
    simp (maxSteps := 3000000) (disch := first | exact trivial | assumption | omega | exact rOk | exact rCl | exact rNo) only [go_sem, seval]
    refine callC hW' ?_ rfl ?_
    · simp (maxSteps := 3000000) (disch := first | exact trivial | assumption | omega | exact rOk | exact rCl | exact rNo) only [go_sem, seval]
      try exact LesV.refl _
    simp (maxSteps := 3000000) (disch := first | exact trivial | assumption | omega | exact rOk | exact rCl | exact rNo) only [go_sem, seval, hww]
    refine callC hM ?_ rfl ?_
    · simp (maxSteps := 3000000) (disch := first | exact trivial | assumption | omega | exact rOk | exact rCl | exact rNo) only [go_sem, seval]
      try exact LesV.refl _
    simp (maxSteps := 3000000) (disch := first | exact trivial | assumption | omega | exact rOk | exact rCl | exact rNo) only [go_sem, seval]
    refine callC hM' ?_ rfl ?_
    · simp (maxSteps := 3000000) (disch := first | exact trivial | assumption | omega | exact rOk | exact rCl | exact rNo) only [go_sem, seval]
      try exact LesV.refl _
    simp (maxSteps := 3000000) (disch := first | exact trivial | assumption | omega | exact rOk | exact rCl | exact rNo) only [go_sem, seval, hmm, tlD]
    refine AL.ofNN 14 15 true true 3 3 (fun _ => .unk) (fun _ => .unk) (NmP p) (fun s => 5 - s.1) (fun s => [(2, tlD p), (7, bxD wa), (8, rbD wa), (9, bxD wb), (10, rbD wb), (11, .nils), (13, .bool false), (14, .sl 0 s.2.length 0 s.2.length), (15, .sl 1 s.2.length 0 s.2.length), (16, .int .i64 s.1)]) (fun s => [(0, .row false s.2.length true 3 s.2.length (qR s.2)), (1, .row false s.2.length true 3 s.2.length (rqR s.2))]) (0, []) (by simp (maxSteps := 3000000) (disch := first | exact trivial | assumption | omega | exact rOk | exact rCl | exact rNo) only [go_sem, seval]) (by simp (maxSteps := 3000000) (disch := first | exact trivial | assumption | omega | exact rOk | exact rCl | exact rNo) only [go_sem, seval]) (by omega) ⟨Nat.zero_le _, Nat.zero_le _, rfl⟩ ?_ ?_ ?_ ?_
    · simp (maxSteps := 3000000) (disch := first | exact trivial | assumption | omega | exact rOk | exact rCl | exact rNo) only [go_sem, seval, bxD, rbD, tlD, List.length_nil]
      try exact LeV.refl _
    · simp (maxSteps := 3000000) (disch := first | exact trivial | assumption | omega | exact rOk | exact rCl | exact rNo) only [go_sem, seval, List.length_nil]
      try exact ⟨fun j hj => absurd hj (by omega), fun j hj => absurd hj (by omega)⟩
    · intro x _; simp (maxSteps := 3000000) (disch := first | exact trivial | assumption | omega | exact rOk | exact rCl | exact rNo) only [go_sem, seval]
    rintro ⟨i, w⟩ ⟨hi, hi5, hw⟩
    simp only at hi hi5 hw
    have hwl : w.length ≤ 5 := by rw [hw]; exact Nat.le_trans (List.length_filterMap_le _ _) (by rw [List.length_take]; omega)
    by_cases hend : i = p.length ∨ i = 5
    · have hr : numL p = w := by
        rw [hw]; unfold numL
        rcases hend with h | h
        · rw [h, List.take_length, List.take_of_length_le (by omega)]
        · rw [h]
      have hqw := numL_qs p
      rw [hr] at hqw
      have hH := box_Has hqa hqw (by omega) (by omega)
      have hH' := ref_BoxHas hqa hqw (by omega) (by omega)
      generalize (hoB wa w && allB (fun j => hasB (wa.getD j (0, 0)) (w.getD j 0)) wa.length) = vh at *
      have hhh : (vh != vh) = false := by cases vh <;> rfl
      clear hw hr
      have hgo : ∀ (b1 b2 : Bool), True := fun _ _ => trivial
      have hcond : (i = p.length ∧ i ≤ 5) ∨ (i = 5 ∧ i < p.length) := by omega
      rcases hcond with ⟨h, h5⟩ | ⟨h, h5⟩
      · subst h
        simp (maxSteps := 3000000) (disch := first | exact trivial | assumption | omega | exact rOk | exact rCl | exact rNo) only [go_sem, seval, tlD]
        refine callC hH ?_ rfl ?_
        · simp (maxSteps := 3000000) (disch := first | exact trivial | assumption | omega | exact rOk | exact rCl | exact rNo) only [go_sem, seval, bxD, qlD]
          try exact LesV.refl _
        simp (maxSteps := 3000000) (disch := first | exact trivial | assumption | omega | exact rOk | exact rCl | exact rNo) only [go_sem, seval, tlD]
        refine callC hH' ?_ rfl ?_
        · simp (maxSteps := 3000000) (disch := first | exact trivial | assumption | omega | exact rOk | exact rCl | exact rNo) only [go_sem, seval, rbD, rqlD]
          try exact LesV.refl _
        simp (maxSteps := 3000000) (disch := first | exact trivial | assumption | omega | exact rOk | exact rCl | exact rNo) only [go_sem, seval, hhh]
      · subst h
        simp (maxSteps := 3000000) (disch := first | exact trivial | assumption | omega | exact rOk | exact rCl | exact rNo) only [go_sem, seval, tlD]
        refine callC hH ?_ rfl ?_
        · simp (maxSteps := 3000000) (disch := first | exact trivial | assumption | omega | exact rOk | exact rCl | exact rNo) only [go_sem, seval, bxD, qlD]
          try exact LesV.refl _
        simp (maxSteps := 3000000) (disch := first | exact trivial | assumption | omega | exact rOk | exact rCl | exact rNo) only [go_sem, seval, tlD]
        refine callC hH' ?_ rfl ?_
        · simp (maxSteps := 3000000) (disch := first | exact trivial | assumption | omega | exact rOk | exact rCl | exact rNo) only [go_sem, seval, rbD, rqlD]
          try exact LesV.refl _
        simp (maxSteps := 3000000) (disch := first | exact trivial | assumption | omega | exact rOk | exact rCl | exact rNo) only [go_sem, seval, hhh]
    · have hil' : i < p.length := by omega
      have hi5' : i < 5 := by omega
      have hmem : p.getD i [] ∈ p := by
        rw [List.getD_eq_getElem?_getD, List.getElem?_eq_getElem hil']; exact List.getElem_mem hil'
      have t1 := htp _ hmem
      have hp : tR p i = .str (p.getD i []) := rfl
      have hnx : (p.take (i + 1)).filterMap numO = w ++ (numO (p.getD i [])).toList := by
        rw [List.take_add_one, List.getD_eq_getElem?_getD, List.getElem?_eq_getElem hil', hw, List.filterMap_append]
        simp only [Option.getD_some, Option.toList_some, List.filterMap_cons, List.filterMap_nil]
        cases numO p[i] <;> rfl
      generalize p.getD i [] = x at *
      cases ho : numO x with
      | some q =>
        have hy := law3_Num_yes ho
        rw [ho] at hnx
        have hnx : (p.take (i + 1)).filterMap numO = w ++ [q] := hnx
        have hnx := hnx.symm
        have hl1 : (w ++ [q]).length = w.length + 1 := by rw [List.length_append]; rfl
        clear hw
        simp (maxSteps := 3000000) (disch := first | exact trivial | assumption | omega | exact rOk | exact rCl | exact rNo) only [go_sem, seval, tlD, hp]
        refine callC hy ?_ rfl ?_
        · simp (maxSteps := 3000000) (disch := first | exact trivial | assumption | omega | exact rOk | exact rCl | exact rNo) only [go_sem, seval]
          try exact LesV.refl _
        simp (maxSteps := 3000000) (disch := first | exact trivial | assumption | omega | exact rOk | exact rCl | exact rNo) only [go_sem, seval, tlD, hp]
        refine AReg_anyL 10 [0, 1, 2, 3, 4, 5, 6, 7, 8, 9] rfl rfl (by decide +kernel) ?_
        refine AAny_free 0 [1, 2, 3, 4, 5, 6, 7, 8, 9] (by decide +kernel) rfl ?_
        refine AI_at _ rfl ?_
        simp (maxSteps := 3000000) (disch := first | exact trivial | assumption | omega | exact rOk | exact rCl | exact rNo) only [go_sem, seval, tlD]
        refine AAny_free 1 [2, 3, 4, 5, 6, 7, 8, 9] (by decide +kernel) rfl ?_
        refine AI_at _ rfl ?_
        simp (maxSteps := 3000000) (disch := first | exact trivial | assumption | omega | exact rOk | exact rCl | exact rNo) only [go_sem, seval, tlD]
        refine AAny_free 4 [2, 3, 5, 6, 7, 8, 9] (by decide +kernel) rfl ?_
        refine AI_at _ rfl ?_
        simp (maxSteps := 3000000) (disch := first | exact trivial | assumption | omega | exact rOk | exact rCl | exact rNo) only [go_sem, seval, tlD]
        refine AAny_stab 5 [2, 3, 6, 7, 8, 9] (by decide +kernel) rfl (by simp (maxSteps := 3000000) (disch := first | exact trivial | assumption | omega | exact rOk | exact rCl | exact rNo) only [go_sem, seval, tlD, stab, isVarB, blks, blkss, Op.operands, Call.operands, List.toList_toArray, Array.toList_append, List.all_cons, List.all_nil, Option.isNone_none]) ?_
        refine AI_at _ rfl ?_
        simp (maxSteps := 3000000) (disch := first | exact trivial | assumption | omega | exact rOk | exact rCl | exact rNo) only [go_sem, seval, tlD]
        refine AAny_step [(2, [3, 6, 7, 8, 9]), (6, [2, 3, 7, 8, 9])] (by decide +kernel) rfl ?_
        refine forall_more ?_ ?_
        · refine AI_at _ rfl ?_
          simp (maxSteps := 3000000) (disch := first | exact trivial | assumption | omega | exact rOk | exact rCl | exact rNo) only [go_sem, seval, tlD]
          refine AAny_step [(3, [6, 7, 8, 9]), (6, [3, 7, 8, 9])] (by decide +kernel) rfl ?_
          refine forall_more ?_ ?_
          · refine AI_at _ rfl ?_
            simp (maxSteps := 3000000) (disch := first | exact trivial | assumption | omega | exact rOk | exact rCl | exact rNo) only [go_sem, seval, tlD]
            refine ⟨.inl trivial, .inr trivial, by omega, by omega, ?_⟩
            refine AAny_free 6 [7, 8, 9] (by decide +kernel) rfl ?_
            refine AI_at _ rfl ?_
            simp (maxSteps := 3000000) (disch := first | exact trivial | assumption | omega | exact rOk | exact rCl | exact rNo) only [go_sem, seval, tlD]
            refine AAny_free 7 [8, 9] (by decide +kernel) rfl ?_
            refine AI_at _ rfl ?_
            simp (maxSteps := 3000000) (disch := first | exact trivial | assumption | omega | exact rOk | exact rCl | exact rNo) only [go_sem, seval, tlD]
            refine ⟨.inl trivial, .inr trivial, by omega, by omega, ?_⟩
            refine AAny_free 8 [9] (by decide +kernel) rfl ?_
            refine AI_at _ rfl ?_
            simp (maxSteps := 3000000) (disch := first | exact trivial | assumption | omega | exact rOk | exact rCl | exact rNo) only [go_sem, seval, tlD]
            refine AAny_free 9 [] (by decide +kernel) rfl ?_
            refine AI_at _ rfl ?_
            simp (maxSteps := 3000000) (disch := first | exact trivial | assumption | omega | exact rOk | exact rCl | exact rNo) only [go_sem, seval, tlD]
            refine AAny_end ?_
            refine ⟨(i + 1, w ++ [q]), ⟨hil', hi5', hnx⟩, by show 5 - (i + 1) < 5 - i; omega, ?_, ?_⟩
            · simp (maxSteps := 3000000) (disch := first | exact trivial | assumption | omega | exact rOk | exact rCl | exact rNo) only [go_sem, seval, bxD, rbD, tlD, hl1]
              try exact LeV_int (by omega)
            · simp (maxSteps := 3000000) (disch := first | exact trivial | assumption | omega | exact rOk | exact rCl | exact rNo) only [go_sem, seval, hl1]
              exact ⟨fun j hj => Le.of_eq (qR_snoc rfl hj), fun j hj => Le.of_eq (rqR_snoc rfl hj)⟩
          refine forall_one ?_
          refine AI_at _ rfl ?_
          simp (maxSteps := 3000000) (disch := first | exact trivial | assumption | omega | exact rOk | exact rCl | exact rNo) only [go_sem, seval, tlD]
          refine AAny_free 3 [7, 8, 9] (by decide +kernel) rfl ?_
          refine AI_at _ rfl ?_
          simp (maxSteps := 3000000) (disch := first | exact trivial | assumption | omega | exact rOk | exact rCl | exact rNo) only [go_sem, seval, tlD]
          refine ⟨.inl trivial, .inr trivial, by omega, by omega, ?_⟩
          refine AAny_free 7 [8, 9] (by decide +kernel) rfl ?_
          refine AI_at _ rfl ?_
          simp (maxSteps := 3000000) (disch := first | exact trivial | assumption | omega | exact rOk | exact rCl | exact rNo) only [go_sem, seval, tlD]
          refine ⟨.inl trivial, .inr trivial, by omega, by omega, ?_⟩
          refine AAny_free 8 [9] (by decide +kernel) rfl ?_
          refine AI_at _ rfl ?_
          simp (maxSteps := 3000000) (disch := first | exact trivial | assumption | omega | exact rOk | exact rCl | exact rNo) only [go_sem, seval, tlD]
          refine AAny_free 9 [] (by decide +kernel) rfl ?_
          refine AI_at _ rfl ?_
          simp (maxSteps := 3000000) (disch := first | exact trivial | assumption | omega | exact rOk | exact rCl | exact rNo) only [go_sem, seval, tlD]
          refine AAny_end ?_
          refine ⟨(i + 1, w ++ [q]), ⟨hil', hi5', hnx⟩, by show 5 - (i + 1) < 5 - i; omega, ?_, ?_⟩
          · simp (maxSteps := 3000000) (disch := first | exact trivial | assumption | omega | exact rOk | exact rCl | exact rNo) only [go_sem, seval, bxD, rbD, tlD, hl1]
            try exact LeV_int (by omega)
          · simp (maxSteps := 3000000) (disch := first | exact trivial | assumption | omega | exact rOk | exact rCl | exact rNo) only [go_sem, seval, hl1]
            exact ⟨fun j hj => Le.of_eq (qR_snoc rfl hj), fun j hj => Le.of_eq (rqR_snoc rfl hj)⟩
        refine forall_one ?_
        refine AI_at _ rfl ?_
        simp (maxSteps := 3000000) (disch := first | exact trivial | assumption | omega | exact rOk | exact rCl | exact rNo) only [go_sem, seval, tlD]
        refine AAny_free 2 [3, 7, 8, 9] (by decide +kernel) rfl ?_
        refine AI_at _ rfl ?_
        simp (maxSteps := 3000000) (disch := first | exact trivial | assumption | omega | exact rOk | exact rCl | exact rNo) only [go_sem, seval, tlD]
        refine AAny_free 3 [7, 8, 9] (by decide +kernel) rfl ?_
        refine AI_at _ rfl ?_
        simp (maxSteps := 3000000) (disch := first | exact trivial | assumption | omega | exact rOk | exact rCl | exact rNo) only [go_sem, seval, tlD]
        refine ⟨.inl trivial, .inr trivial, by omega, by omega, ?_⟩
        refine AAny_free 7 [8, 9] (by decide +kernel) rfl ?_
        refine AI_at _ rfl ?_
        simp (maxSteps := 3000000) (disch := first | exact trivial | assumption | omega | exact rOk | exact rCl | exact rNo) only [go_sem, seval, tlD]
        refine ⟨.inl trivial, .inr trivial, by omega, by omega, ?_⟩
        refine AAny_free 8 [9] (by decide +kernel) rfl ?_
        refine AI_at _ rfl ?_
        simp (maxSteps := 3000000) (disch := first | exact trivial | assumption | omega | exact rOk | exact rCl | exact rNo) only [go_sem, seval, tlD]
        refine AAny_free 9 [] (by decide +kernel) rfl ?_
        refine AI_at _ rfl ?_
        simp (maxSteps := 3000000) (disch := first | exact trivial | assumption | omega | exact rOk | exact rCl | exact rNo) only [go_sem, seval, tlD]
        refine AAny_end ?_
        refine ⟨(i + 1, w ++ [q]), ⟨hil', hi5', hnx⟩, by show 5 - (i + 1) < 5 - i; omega, ?_, ?_⟩
        · simp (maxSteps := 3000000) (disch := first | exact trivial | assumption | omega | exact rOk | exact rCl | exact rNo) only [go_sem, seval, bxD, rbD, tlD, hl1]
          try exact LeV_int (by omega)
        · simp (maxSteps := 3000000) (disch := first | exact trivial | assumption | omega | exact rOk | exact rCl | exact rNo) only [go_sem, seval, hl1]
          exact ⟨fun j hj => Le.of_eq (qR_snoc rfl hj), fun j hj => Le.of_eq (rqR_snoc rfl hj)⟩
      | none =>
        have hy := law3_Num_no t1 ho
        rw [ho] at hnx
        have hnx : (p.take (i + 1)).filterMap numO = w := hnx.trans (List.append_nil _)
        have hnx := hnx.symm
        clear hw
        simp (maxSteps := 3000000) (disch := first | exact trivial | assumption | omega | exact rOk | exact rCl | exact rNo) only [go_sem, seval, tlD, hp]
        refine callC hy ?_ rfl ?_
        · simp (maxSteps := 3000000) (disch := first | exact trivial | assumption | omega | exact rOk | exact rCl | exact rNo) only [go_sem, seval]
          try exact LesV.refl _
        simp (maxSteps := 3000000) (disch := first | exact trivial | assumption | omega | exact rOk | exact rCl | exact rNo) only [go_sem, seval, tlD, hp]
        refine ⟨(i + 1, w), ⟨hil', hi5', hnx⟩, by show 5 - (i + 1) < 5 - i; omega, ?_, ?_⟩
        · simp (maxSteps := 3000000) (disch := first | exact trivial | assumption | omega | exact rOk | exact rCl | exact rNo) only [go_sem, seval, bxD, rbD, tlD]
          try exact LeV_int (by omega)
        · simp (maxSteps := 3000000) (disch := first | exact trivial | assumption | omega | exact rOk | exact rCl | exact rNo) only [go_sem, seval]
          exact ⟨fun _ _ => trivial, fun _ _ => trivial⟩
end Go.Proofs.YtmcinfbckdiaoaaGreatDoor.Lv
