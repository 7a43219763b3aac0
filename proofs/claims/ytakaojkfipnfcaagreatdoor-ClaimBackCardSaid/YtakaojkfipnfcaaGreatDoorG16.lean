/- The program's quotients: least. The program's quotients: Add, Mul, Div. -/
import Derived.Test.YtakaojkfipnfcaaGreatDoorG15
set_option linter.unusedVariables false
set_option linter.unusedSimpArgs false
set_option maxRecDepth 100000
set_option maxHeartbeats 4000000
namespace Go.Proofs.YtakaojkfipnfcaaGreatDoor.Lv
open Go Go.RowKit
theorem nbit_two {n : Nat} (h : 2 ≤ n) : 2 ≤ nbit n:=by
  rcases Nat.lt_or_ge (nbit n) 2 with h1 | h1
  · have:=(nbit_lt (n:=n) (k:=1)).1 (by omega);omega
  · exact h1
theorem nbit_one {n : Nat} (h : n < 2) : nbit n < 2:=by
  have:=(nbit_lt (n:=n) (k:=1)).2 (by omega);omega
theorem fin1 {z : Int} (q : Rat) (h1 : q.den = 1) (h2 : z = q.num) : LeV (.agg [u32s (limbs z.natAbs), .bool (decide (z < 0)), .nils]) (qD q):=by
  subst h2
  rw [qD,qden_zero.2 h1,limbs_zero]
  exact LeV.agg (LesV.cons (LeV.refl _) (LesV.cons (LeV.refl _) (LesV.cons LeV.nils LesV.nil)))
theorem fin2 {z : Int} {d : Nat} (q : Rat) (h0 : d = q.den) (h1 : q.den ≠ 1) (h2 : z = q.num) : LeV (.agg [u32s (limbs z.natAbs), .bool (decide (z < 0)),u32s (limbs d)]) (qD q):=by
  subst h2 h0
  have e : qden q = q.den:=by unfold qden;rw [if_neg h1]
  rw [qD,e]
  exact LeV.refl _
theorem sg_neg (n : Int) : decide (sgI n 0 < 0) = decide (n < 0):=by
  by_cases h : n < 0
  · rw [sgI_lt h,decide_eq_true h];rfl
  · rw [decide_eq_false h]
    rcases (show n = 0 ∨ 0 < n by omega) with h | h
    · rw [h,sgI_eq];rfl
    · rw [sgI_gt h];rfl
theorem mk_num {n : Int} {d : Nat} (hd : d ≠ 0) : mkZ (decide (n < 0)) (n.natAbs / d.gcd n.natAbs) = (mkRat n d).num:=by
  obtain ⟨h1,h2,h3⟩:=mk_parts n d hd
  unfold mkZ
  by_cases h : n < 0
  · rw [if_pos (decide_eq_true h)]
    have:=h2.2 h
    omega
  · rw [if_neg (by simp [h])]
    have:=fun h' => h (h2.1 h')
    omega
def dOf (d : Nat) : Nat:=if d = 0 then 1 else d
theorem rat_least {n : Int} {d : Nat} (hn : zb n < 500000000) (hd : nb d < 500000000) : C E 176 [zD n,natD d] (qD (mkRat n (dOf d))):=by
  refine CG_intro Tryz.func176 rfl (by kernel_rfl) rfl (by kernel_rfl) (by kernel_rfl) rfl ?_
  have hl:=nbit_nb d
  unfold zb at hn
  simp (disch:=first|exact dd|fail) only [go_sem,seval]
  refine callC (nat_Bits (n:=d) (by omega)) ?_ rfl ?_
  · simp (disch:=first|exact dd|fail) only [go_sem,seval,natD_u32s]
    try exact LesV.refl _
  by_cases hd2 : d < 2
  · have hb:=nbit_one hd2
    have e : mkRat n (dOf d) = (n : Rat):=by
      have : dOf d = 1:=by unfold dOf;split <;> omega
      rw [this,Rat.mkRat_one]
    rw [e]
    simp (disch:=first|exact dd|fail) only [go_sem,seval]
    exact qD_int n
  have hb:=nbit_two (n:=d) (by omega)
  have hdo : dOf d = d:=by unfold dOf;rw [if_neg (by omega)]
  rw [hdo]
  by_cases hn0 : n = 0
  · subst hn0
    have e : mkRat 0 d = ((0 : Int) : Rat):=by rw [Rat.zero_mkRat];rfl
    rw [e]
    have h00 : sgI 0 0 = 0:=rfl
    simp (disch:=first|exact dd|fail) only [go_sem,seval]
    refine cA (whole_Sign (z:=0) (by omega)) ?_
    simp (disch:=first|exact dd|fail) only [go_sem,seval,h00]
    exact qD_int 0
  have hs0 : sgI n 0 ≠ 0:=by
    rcases (show n < 0 ∨ 0 < n by omega) with h | h
    · rw [sgI_lt h];decide
    · rw [sgI_gt h];decide
  have hse : (sgI n 0 == 0) = false:=beq_eq_false_iff_ne.2 hs0
  have hsg:=sg_neg n
  obtain ⟨mk0,mkk,mk1⟩:=mk_parts n d (by omega)
  have mk2:=mk_num (n:=n) (d:=d) (by omega)
  have hgd : d.gcd n.natAbs ∣ d:=Nat.gcd_dvd_left _ _
  have hgle : d.gcd n.natAbs ≤ d:=Nat.le_of_dvd (by omega) hgd
  have hgpos : 0 < d.gcd n.natAbs:=Nat.gcd_pos_of_pos_left _ (by omega)
  simp (disch:=first|exact dd|fail) only [go_sem,seval]
  refine cA (whole_Sign (z:=n) (by omega)) ?_
  simp (disch:=first|exact dd|fail) only [go_sem,seval,hse]
  generalize hg : d.gcd n.natAbs = g at *
  have hgnb:=nb_mono hgle
  have hg0 : g ≠ 0:=by omega
  have hp1:=nb_mono (Nat.div_le_self n.natAbs g)
  have hp2:=nb_mono (Nat.div_le_self d g)
  have hdg : 0 < d / g:=Nat.div_pos hgle hgpos
  have hGcd:=nat_Gcd (a:=d) (b:=n.natAbs) (by omega) (by omega)
  rw [hg] at hGcd
  refine AReg_tail [(2, .ad 0 0),(3, .ad 1 0),(4, .ad 2 0),(5, .ad 3 0)] [(3, .var true 1 (natD g)),(2, .var true 3 (.agg [.nils, .bool false, .nils])),(1, .var true 1 (natD d)),(0, .var true 2 (zD n))] 4 (fun tail => ?_) (fun e he => ?_)
  · refine AReg_anyL 6 [0,1,2,3,4,5] rfl rfl (by decide +kernel) ?_
    refine AAny_free 0 [1,2,3,4,5] (by decide +kernel) rfl ?_
    refine AI_at _ rfl ?_
    simp (disch:=first|exact dd|fail) only [go_sem,seval]
    refine AAny_free 1 [2,3,4,5] (by decide +kernel) rfl ?_
    refine AI_at _ rfl ?_
    simp (disch:=first|exact dd|fail) only [go_sem,seval]
    refine AAny_step [(2,[3,4,5]),(4,[2,3,5])] (by decide +kernel) rfl ?_
    refine forall_more ?_ ?_
    · refine AI_at _ rfl ?_
      simp (disch:=first|exact dd|fail) only [go_sem,seval]
      refine callCl (whole_Abs n) ?_ rfl ?_
      · simp (disch:=first|exact dd|fail) only [go_sem,seval,natD_u32s]
        try exact LesV.refl _
      simp (disch:=first|exact dd|fail) only [go_sem,seval]
      refine AAny_step [(3,[4,5]),(4,[3,5])] (by decide +kernel) rfl ?_
      refine forall_more ?_ ?_
      · refine AI_at _ rfl ?_
        simp (disch:=first|exact dd|fail) only [go_sem,seval]
        refine callCl hGcd ?_ rfl ?_
        · simp (disch:=first|exact dd|fail) only [go_sem,seval,natD_u32s]
          try exact LesV.refl _
        simp (disch:=first|exact dd|fail) only [go_sem,seval]
        refine AAny_free 4 [5] (by decide +kernel) rfl ?_
        refine AI_at _ rfl ?_
        simp (disch:=first|exact dd|fail) only [go_sem,seval]
        refine AAny_free 5 [] (by decide +kernel) rfl ?_
        refine AI_at _ rfl ?_
        simp (disch:=first|exact dd|fail) only [go_sem,seval]
        refine AAny_end ?_
        exact tail _ (by simp (disch:=first|exact dd|fail) only [go_sem,seval])
      refine forall_one ?_
      refine AI_at _ rfl ?_
      simp (disch:=first|exact dd|fail) only [go_sem,seval]
      refine AAny_free 3 [5] (by decide +kernel) rfl ?_
      refine AI_at _ rfl ?_
      simp (disch:=first|exact dd|fail) only [go_sem,seval]
      refine callCl hGcd ?_ rfl ?_
      · simp (disch:=first|exact dd|fail) only [go_sem,seval,natD_u32s]
        try exact LesV.refl _
      simp (disch:=first|exact dd|fail) only [go_sem,seval]
      refine AAny_free 5 [] (by decide +kernel) rfl ?_
      refine AI_at _ rfl ?_
      simp (disch:=first|exact dd|fail) only [go_sem,seval]
      refine AAny_end ?_
      exact tail _ (by simp (disch:=first|exact dd|fail) only [go_sem,seval])
    refine forall_one ?_
    refine AI_at _ rfl ?_
    simp (disch:=first|exact dd|fail) only [go_sem,seval]
    refine AAny_free 2 [3,5] (by decide +kernel) rfl ?_
    refine AI_at _ rfl ?_
    simp (disch:=first|exact dd|fail) only [go_sem,seval]
    refine callCl (whole_Abs n) ?_ rfl ?_
    · simp (disch:=first|exact dd|fail) only [go_sem,seval,natD_u32s]
      try exact LesV.refl _
    simp (disch:=first|exact dd|fail) only [go_sem,seval]
    refine AAny_free 3 [5] (by decide +kernel) rfl ?_
    refine AI_at _ rfl ?_
    simp (disch:=first|exact dd|fail) only [go_sem,seval]
    refine callCl hGcd ?_ rfl ?_
    · simp (disch:=first|exact dd|fail) only [go_sem,seval,natD_u32s]
      try exact LesV.refl _
    simp (disch:=first|exact dd|fail) only [go_sem,seval]
    refine AAny_free 5 [] (by decide +kernel) rfl ?_
    refine AI_at _ rfl ?_
    simp (disch:=first|exact dd|fail) only [go_sem,seval]
    refine AAny_end ?_
    exact tail _ (by simp (disch:=first|exact dd|fail) only [go_sem,seval])
  simp only [EnvEq_cons,EnvEq_nil] at he
  simp (disch:=first|exact dd|fail) only [go_sem,seval,he]
  refine callC (nat_Bits (n:=g) (by omega)) ?_ rfl ?_
  · simp (disch:=first|exact dd|fail) only [go_sem,seval,natD_u32s]
    try exact LesV.refl _
  by_cases hg1 : g = 1
  · have hb1 : nbit g = 1:=by rw [hg1];rfl
    have hbd:=nbit_nb d
    rw [hg1,Nat.div_one] at mk2 mk1
    rw [mkZ_self] at mk2
    simp (disch:=first|exact dd|fail) only [go_sem,seval,he,hb1]
    refine callC (nat_Bits (n:=d) (by omega)) ?_ rfl ?_
    · simp (disch:=first|exact dd|fail) only [go_sem,seval,natD_u32s]
      try exact LesV.refl _
    simp (disch:=first|exact dd|fail) only [go_sem,seval,he]
    exact fin2 _ mk1.symm (by rw [mk1];omega) mk2
  have hbg:=nbit_two (n:=g) (by omega)
  simp (disch:=first|exact dd|fail) only [go_sem,seval,he]
  refine AReg_tail [(2, .ad 0 0),(3, .ad 1 0),(4, .ad 2 0),(5, .ad 3 0),(6, .ad 4 0)] [(5, .var true 1 (natD (n.natAbs % g))),(4, .var true 1 (natD (n.natAbs / g))),(3, .var true 1 (natD g)),(2, .var true 3 (.agg [.nils, .bool false, .nils])),(1, .var true 1 (natD d)),(0, .var true 2 (zD n))] 6 (fun tail2 => ?_) (fun e he => ?_)
  · refine AReg_tail [(2, .ad 0 0),(3, .ad 1 0),(4, .ad 2 0),(5, .ad 3 0),(6, .ad 5 0)] [(5, .var true 1 (natD (n.natAbs / g))),(4, .var true 1 (natD (n.natAbs % g))),(3, .var true 1 (natD g)),(2, .var true 3 (.agg [.nils, .bool false, .nils])),(1, .var true 1 (natD d)),(0, .var true 2 (zD n))] 6 (fun tail3 => ?_) (fun e he => ?_)
    · refine AReg_anyL 13 [0,1,2,3,4,5,6,7,8,9,10,11,12] rfl rfl (by decide +kernel) ?_
      refine AAny_free 0 [1,2,3,4,5,6,7,8,9,10,11,12] (by decide +kernel) rfl ?_
      refine AI_at _ rfl ?_
      simp (disch:=first|exact dd|fail) only [go_sem,seval,he]
      refine AAny_free 2 [1,3,4,5,6,7,8,9,10,11,12] (by decide +kernel) rfl ?_
      refine AI_at _ rfl ?_
      simp (disch:=first|exact dd|fail) only [go_sem,seval,he]
      refine AAny_step [(1,[3,4,5,6,7,8,9,10,11,12]),(8,[1,3,4,5,6,7,9,10,11,12]),(9,[1,3,4,5,6,7,8,10,11,12])] (by decide +kernel) rfl ?_
      refine forall_more ?_ ?_
      · refine AI_at _ rfl ?_
        simp (disch:=first|exact dd|fail) only [go_sem,seval,he]
        refine callCl (whole_Abs n) ?_ rfl ?_
        · simp (disch:=first|exact dd|fail) only [go_sem,seval,natD_u32s]
          try exact LesV.refl _
        simp (disch:=first|exact dd|fail) only [go_sem,seval,he]
        refine AAny_step [(3,[4,5,6,7,8,9,10,11,12]),(8,[3,4,5,6,7,9,10,11,12]),(9,[3,4,5,6,7,8,10,11,12])] (by decide +kernel) rfl ?_
        refine forall_more ?_ ?_
        · refine AI_at _ rfl ?_
          simp (disch:=first|exact dd|fail) only [go_sem,seval,he]
          refine callCl (nat_Div (a:=n.natAbs) (b:=g) (by omega) (by omega) hg0) ?_ rfl ?_
          · simp (disch:=first|exact dd|fail) only [go_sem,seval,natD_u32s]
            try exact LesV.refl _
          simp (disch:=first|exact dd|fail) only [go_sem,seval,he]
          refine AAny_free 4 [5,6,7,8,9,10,11,12] (by decide +kernel) rfl ?_
          refine AI_at _ rfl ?_
          simp (disch:=first|exact dd|fail) only [go_sem,seval,he]
          refine AAny_free 5 [6,7,8,9,10,11,12] (by decide +kernel) rfl ?_
          refine AI_at _ rfl ?_
          simp (disch:=first|exact dd|fail) only [go_sem,seval,he]
          refine AAny_free 6 [7,8,9,10,11,12] (by decide +kernel) rfl ?_
          refine AI_at _ rfl ?_
          simp (disch:=first|exact dd|fail) only [go_sem,seval,he]
          refine AAny_free 7 [8,9,10,11,12] (by decide +kernel) rfl ?_
          refine AI_at _ rfl ?_
          simp (disch:=first|exact dd|fail) only [go_sem,seval,he]
          refine AAny_step [(8,[9,10,11,12]),(9,[8,10,11,12])] (by decide +kernel) rfl ?_
          refine forall_more ?_ ?_
          · refine AI_at _ rfl ?_
            simp (disch:=first|exact dd|fail) only [go_sem,seval,he]
            refine AAny_free 9 [10,11,12] (by decide +kernel) rfl ?_
            refine AI_at _ rfl ?_
            simp (disch:=first|exact dd|fail) only [go_sem,seval,he]
            refine AAny_free 10 [11,12] (by decide +kernel) rfl ?_
            refine AI_at _ rfl ?_
            simp (disch:=first|exact dd|fail) only [go_sem,seval,he]
            refine AAny_free 11 [12] (by decide +kernel) rfl ?_
            refine AI_at _ rfl ?_
            simp (disch:=first|exact dd|fail) only [go_sem,seval,he]
            refine AAny_free 12 [] (by decide +kernel) rfl ?_
            refine AI_at _ rfl ?_
            simp (disch:=first|exact dd|fail) only [go_sem,seval,he]
            refine AAny_end ?_
            first | (refine tail2 _ ?_;simp (disch:=first|exact dd|fail) only [go_sem,seval,he];done) | (refine tail3 _ ?_;simp (disch:=first|exact dd|fail) only [go_sem,seval,he];done)
          refine forall_one ?_
          refine AI_at _ rfl ?_
          simp (disch:=first|exact dd|fail) only [go_sem,seval,he]
          refine AAny_free 8 [10,11,12] (by decide +kernel) rfl ?_
          refine AI_at _ rfl ?_
          simp (disch:=first|exact dd|fail) only [go_sem,seval,he]
          refine AAny_free 10 [11,12] (by decide +kernel) rfl ?_
          refine AI_at _ rfl ?_
          simp (disch:=first|exact dd|fail) only [go_sem,seval,he]
          refine AAny_free 11 [12] (by decide +kernel) rfl ?_
          refine AI_at _ rfl ?_
          simp (disch:=first|exact dd|fail) only [go_sem,seval,he]
          refine AAny_free 12 [] (by decide +kernel) rfl ?_
          refine AI_at _ rfl ?_
          simp (disch:=first|exact dd|fail) only [go_sem,seval,he]
          refine AAny_end ?_
          first | (refine tail2 _ ?_;simp (disch:=first|exact dd|fail) only [go_sem,seval,he];done) | (refine tail3 _ ?_;simp (disch:=first|exact dd|fail) only [go_sem,seval,he];done)
        refine forall_more ?_ ?_
        · refine AI_at _ rfl ?_
          simp (disch:=first|exact dd|fail) only [go_sem,seval,he]
          refine AAny_step [(3,[4,5,6,7,9,10,11,12]),(9,[3,4,5,6,7,10,11,12])] (by decide +kernel) rfl ?_
          refine forall_more ?_ ?_
          · refine AI_at _ rfl ?_
            simp (disch:=first|exact dd|fail) only [go_sem,seval,he]
            refine callCl (nat_Div (a:=n.natAbs) (b:=g) (by omega) (by omega) hg0) ?_ rfl ?_
            · simp (disch:=first|exact dd|fail) only [go_sem,seval,natD_u32s]
              try exact LesV.refl _
            simp (disch:=first|exact dd|fail) only [go_sem,seval,he]
            refine AAny_free 4 [5,6,7,9,10,11,12] (by decide +kernel) rfl ?_
            refine AI_at _ rfl ?_
            simp (disch:=first|exact dd|fail) only [go_sem,seval,he]
            refine AAny_free 5 [6,7,9,10,11,12] (by decide +kernel) rfl ?_
            refine AI_at _ rfl ?_
            simp (disch:=first|exact dd|fail) only [go_sem,seval,he]
            refine AAny_free 6 [7,9,10,11,12] (by decide +kernel) rfl ?_
            refine AI_at _ rfl ?_
            simp (disch:=first|exact dd|fail) only [go_sem,seval,he]
            refine AAny_free 7 [9,10,11,12] (by decide +kernel) rfl ?_
            refine AI_at _ rfl ?_
            simp (disch:=first|exact dd|fail) only [go_sem,seval,he]
            refine AAny_free 9 [10,11,12] (by decide +kernel) rfl ?_
            refine AI_at _ rfl ?_
            simp (disch:=first|exact dd|fail) only [go_sem,seval,he]
            refine AAny_free 10 [11,12] (by decide +kernel) rfl ?_
            refine AI_at _ rfl ?_
            simp (disch:=first|exact dd|fail) only [go_sem,seval,he]
            refine AAny_free 11 [12] (by decide +kernel) rfl ?_
            refine AI_at _ rfl ?_
            simp (disch:=first|exact dd|fail) only [go_sem,seval,he]
            refine AAny_free 12 [] (by decide +kernel) rfl ?_
            refine AI_at _ rfl ?_
            simp (disch:=first|exact dd|fail) only [go_sem,seval,he]
            refine AAny_end ?_
            first | (refine tail2 _ ?_;simp (disch:=first|exact dd|fail) only [go_sem,seval,he];done) | (refine tail3 _ ?_;simp (disch:=first|exact dd|fail) only [go_sem,seval,he];done)
          refine forall_one ?_
          refine AI_at _ rfl ?_
          simp (disch:=first|exact dd|fail) only [go_sem,seval,he]
          refine AAny_free 3 [4,5,6,7,10,11,12] (by decide +kernel) rfl ?_
          refine AI_at _ rfl ?_
          simp (disch:=first|exact dd|fail) only [go_sem,seval,he]
          refine callCl (nat_Div (a:=n.natAbs) (b:=g) (by omega) (by omega) hg0) ?_ rfl ?_
          · simp (disch:=first|exact dd|fail) only [go_sem,seval,natD_u32s]
            try exact LesV.refl _
          simp (disch:=first|exact dd|fail) only [go_sem,seval,he]
          refine AAny_free 4 [5,6,7,10,11,12] (by decide +kernel) rfl ?_
          refine AI_at _ rfl ?_
          simp (disch:=first|exact dd|fail) only [go_sem,seval,he]
          refine AAny_free 5 [6,7,10,11,12] (by decide +kernel) rfl ?_
          refine AI_at _ rfl ?_
          simp (disch:=first|exact dd|fail) only [go_sem,seval,he]
          refine AAny_free 6 [7,10,11,12] (by decide +kernel) rfl ?_
          refine AI_at _ rfl ?_
          simp (disch:=first|exact dd|fail) only [go_sem,seval,he]
          refine AAny_free 7 [10,11,12] (by decide +kernel) rfl ?_
          refine AI_at _ rfl ?_
          simp (disch:=first|exact dd|fail) only [go_sem,seval,he]
          refine AAny_free 10 [11,12] (by decide +kernel) rfl ?_
          refine AI_at _ rfl ?_
          simp (disch:=first|exact dd|fail) only [go_sem,seval,he]
          refine AAny_free 11 [12] (by decide +kernel) rfl ?_
          refine AI_at _ rfl ?_
          simp (disch:=first|exact dd|fail) only [go_sem,seval,he]
          refine AAny_free 12 [] (by decide +kernel) rfl ?_
          refine AI_at _ rfl ?_
          simp (disch:=first|exact dd|fail) only [go_sem,seval,he]
          refine AAny_end ?_
          first | (refine tail2 _ ?_;simp (disch:=first|exact dd|fail) only [go_sem,seval,he];done) | (refine tail3 _ ?_;simp (disch:=first|exact dd|fail) only [go_sem,seval,he];done)
        refine forall_one ?_
        refine AI_at _ rfl ?_
        simp (disch:=first|exact dd|fail) only [go_sem,seval,he]
        refine AAny_step [(3,[4,5,6,7,8,10,11,12]),(8,[3,4,5,6,7,10,11,12])] (by decide +kernel) rfl ?_
        refine forall_more ?_ ?_
        · refine AI_at _ rfl ?_
          simp (disch:=first|exact dd|fail) only [go_sem,seval,he]
          refine callCl (nat_Div (a:=n.natAbs) (b:=g) (by omega) (by omega) hg0) ?_ rfl ?_
          · simp (disch:=first|exact dd|fail) only [go_sem,seval,natD_u32s]
            try exact LesV.refl _
          simp (disch:=first|exact dd|fail) only [go_sem,seval,he]
          refine AAny_free 4 [5,6,7,8,10,11,12] (by decide +kernel) rfl ?_
          refine AI_at _ rfl ?_
          simp (disch:=first|exact dd|fail) only [go_sem,seval,he]
          refine AAny_free 5 [6,7,8,10,11,12] (by decide +kernel) rfl ?_
          refine AI_at _ rfl ?_
          simp (disch:=first|exact dd|fail) only [go_sem,seval,he]
          refine AAny_free 6 [7,8,10,11,12] (by decide +kernel) rfl ?_
          refine AI_at _ rfl ?_
          simp (disch:=first|exact dd|fail) only [go_sem,seval,he]
          refine AAny_free 7 [8,10,11,12] (by decide +kernel) rfl ?_
          refine AI_at _ rfl ?_
          simp (disch:=first|exact dd|fail) only [go_sem,seval,he]
          refine AAny_free 8 [10,11,12] (by decide +kernel) rfl ?_
          refine AI_at _ rfl ?_
          simp (disch:=first|exact dd|fail) only [go_sem,seval,he]
          refine AAny_free 10 [11,12] (by decide +kernel) rfl ?_
          refine AI_at _ rfl ?_
          simp (disch:=first|exact dd|fail) only [go_sem,seval,he]
          refine AAny_free 11 [12] (by decide +kernel) rfl ?_
          refine AI_at _ rfl ?_
          simp (disch:=first|exact dd|fail) only [go_sem,seval,he]
          refine AAny_free 12 [] (by decide +kernel) rfl ?_
          refine AI_at _ rfl ?_
          simp (disch:=first|exact dd|fail) only [go_sem,seval,he]
          refine AAny_end ?_
          first | (refine tail2 _ ?_;simp (disch:=first|exact dd|fail) only [go_sem,seval,he];done) | (refine tail3 _ ?_;simp (disch:=first|exact dd|fail) only [go_sem,seval,he];done)
        refine forall_one ?_
        refine AI_at _ rfl ?_
        simp (disch:=first|exact dd|fail) only [go_sem,seval,he]
        refine AAny_free 3 [4,5,6,7,10,11,12] (by decide +kernel) rfl ?_
        refine AI_at _ rfl ?_
        simp (disch:=first|exact dd|fail) only [go_sem,seval,he]
        refine callCl (nat_Div (a:=n.natAbs) (b:=g) (by omega) (by omega) hg0) ?_ rfl ?_
        · simp (disch:=first|exact dd|fail) only [go_sem,seval,natD_u32s]
          try exact LesV.refl _
        simp (disch:=first|exact dd|fail) only [go_sem,seval,he]
        refine AAny_free 4 [5,6,7,10,11,12] (by decide +kernel) rfl ?_
        refine AI_at _ rfl ?_
        simp (disch:=first|exact dd|fail) only [go_sem,seval,he]
        refine AAny_free 5 [6,7,10,11,12] (by decide +kernel) rfl ?_
        refine AI_at _ rfl ?_
        simp (disch:=first|exact dd|fail) only [go_sem,seval,he]
        refine AAny_free 6 [7,10,11,12] (by decide +kernel) rfl ?_
        refine AI_at _ rfl ?_
        simp (disch:=first|exact dd|fail) only [go_sem,seval,he]
        refine AAny_free 7 [10,11,12] (by decide +kernel) rfl ?_
        refine AI_at _ rfl ?_
        simp (disch:=first|exact dd|fail) only [go_sem,seval,he]
        refine AAny_free 10 [11,12] (by decide +kernel) rfl ?_
        refine AI_at _ rfl ?_
        simp (disch:=first|exact dd|fail) only [go_sem,seval,he]
        refine AAny_free 11 [12] (by decide +kernel) rfl ?_
        refine AI_at _ rfl ?_
        simp (disch:=first|exact dd|fail) only [go_sem,seval,he]
        refine AAny_free 12 [] (by decide +kernel) rfl ?_
        refine AI_at _ rfl ?_
        simp (disch:=first|exact dd|fail) only [go_sem,seval,he]
        refine AAny_end ?_
        first | (refine tail2 _ ?_;simp (disch:=first|exact dd|fail) only [go_sem,seval,he];done) | (refine tail3 _ ?_;simp (disch:=first|exact dd|fail) only [go_sem,seval,he];done)
      refine forall_more ?_ ?_
      · refine AI_at _ rfl ?_
        simp (disch:=first|exact dd|fail) only [go_sem,seval,he]
        refine AAny_step [(1,[3,4,5,6,7,9,10,11,12]),(9,[1,3,4,5,6,7,10,11,12])] (by decide +kernel) rfl ?_
        refine forall_more ?_ ?_
        · refine AI_at _ rfl ?_
          simp (disch:=first|exact dd|fail) only [go_sem,seval,he]
          refine callCl (whole_Abs n) ?_ rfl ?_
          · simp (disch:=first|exact dd|fail) only [go_sem,seval,natD_u32s]
            try exact LesV.refl _
          simp (disch:=first|exact dd|fail) only [go_sem,seval,he]
          refine AAny_step [(3,[4,5,6,7,9,10,11,12]),(9,[3,4,5,6,7,10,11,12])] (by decide +kernel) rfl ?_
          refine forall_more ?_ ?_
          · refine AI_at _ rfl ?_
            simp (disch:=first|exact dd|fail) only [go_sem,seval,he]
            refine callCl (nat_Div (a:=n.natAbs) (b:=g) (by omega) (by omega) hg0) ?_ rfl ?_
            · simp (disch:=first|exact dd|fail) only [go_sem,seval,natD_u32s]
              try exact LesV.refl _
            simp (disch:=first|exact dd|fail) only [go_sem,seval,he]
            refine AAny_free 4 [5,6,7,9,10,11,12] (by decide +kernel) rfl ?_
            refine AI_at _ rfl ?_
            simp (disch:=first|exact dd|fail) only [go_sem,seval,he]
            refine AAny_free 5 [6,7,9,10,11,12] (by decide +kernel) rfl ?_
            refine AI_at _ rfl ?_
            simp (disch:=first|exact dd|fail) only [go_sem,seval,he]
            refine AAny_free 6 [7,9,10,11,12] (by decide +kernel) rfl ?_
            refine AI_at _ rfl ?_
            simp (disch:=first|exact dd|fail) only [go_sem,seval,he]
            refine AAny_free 7 [9,10,11,12] (by decide +kernel) rfl ?_
            refine AI_at _ rfl ?_
            simp (disch:=first|exact dd|fail) only [go_sem,seval,he]
            refine AAny_free 9 [10,11,12] (by decide +kernel) rfl ?_
            refine AI_at _ rfl ?_
            simp (disch:=first|exact dd|fail) only [go_sem,seval,he]
            refine AAny_free 10 [11,12] (by decide +kernel) rfl ?_
            refine AI_at _ rfl ?_
            simp (disch:=first|exact dd|fail) only [go_sem,seval,he]
            refine AAny_free 11 [12] (by decide +kernel) rfl ?_
            refine AI_at _ rfl ?_
            simp (disch:=first|exact dd|fail) only [go_sem,seval,he]
            refine AAny_free 12 [] (by decide +kernel) rfl ?_
            refine AI_at _ rfl ?_
            simp (disch:=first|exact dd|fail) only [go_sem,seval,he]
            refine AAny_end ?_
            first | (refine tail2 _ ?_;simp (disch:=first|exact dd|fail) only [go_sem,seval,he];done) | (refine tail3 _ ?_;simp (disch:=first|exact dd|fail) only [go_sem,seval,he];done)
          refine forall_one ?_
          refine AI_at _ rfl ?_
          simp (disch:=first|exact dd|fail) only [go_sem,seval,he]
          refine AAny_free 3 [4,5,6,7,10,11,12] (by decide +kernel) rfl ?_
          refine AI_at _ rfl ?_
          simp (disch:=first|exact dd|fail) only [go_sem,seval,he]
          refine callCl (nat_Div (a:=n.natAbs) (b:=g) (by omega) (by omega) hg0) ?_ rfl ?_
          · simp (disch:=first|exact dd|fail) only [go_sem,seval,natD_u32s]
            try exact LesV.refl _
          simp (disch:=first|exact dd|fail) only [go_sem,seval,he]
          refine AAny_free 4 [5,6,7,10,11,12] (by decide +kernel) rfl ?_
          refine AI_at _ rfl ?_
          simp (disch:=first|exact dd|fail) only [go_sem,seval,he]
          refine AAny_free 5 [6,7,10,11,12] (by decide +kernel) rfl ?_
          refine AI_at _ rfl ?_
          simp (disch:=first|exact dd|fail) only [go_sem,seval,he]
          refine AAny_free 6 [7,10,11,12] (by decide +kernel) rfl ?_
          refine AI_at _ rfl ?_
          simp (disch:=first|exact dd|fail) only [go_sem,seval,he]
          refine AAny_free 7 [10,11,12] (by decide +kernel) rfl ?_
          refine AI_at _ rfl ?_
          simp (disch:=first|exact dd|fail) only [go_sem,seval,he]
          refine AAny_free 10 [11,12] (by decide +kernel) rfl ?_
          refine AI_at _ rfl ?_
          simp (disch:=first|exact dd|fail) only [go_sem,seval,he]
          refine AAny_free 11 [12] (by decide +kernel) rfl ?_
          refine AI_at _ rfl ?_
          simp (disch:=first|exact dd|fail) only [go_sem,seval,he]
          refine AAny_free 12 [] (by decide +kernel) rfl ?_
          refine AI_at _ rfl ?_
          simp (disch:=first|exact dd|fail) only [go_sem,seval,he]
          refine AAny_end ?_
          first | (refine tail2 _ ?_;simp (disch:=first|exact dd|fail) only [go_sem,seval,he];done) | (refine tail3 _ ?_;simp (disch:=first|exact dd|fail) only [go_sem,seval,he];done)
        refine forall_one ?_
        refine AI_at _ rfl ?_
        simp (disch:=first|exact dd|fail) only [go_sem,seval,he]
        refine AAny_free 1 [3,4,5,6,7,10,11,12] (by decide +kernel) rfl ?_
        refine AI_at _ rfl ?_
        simp (disch:=first|exact dd|fail) only [go_sem,seval,he]
        refine callCl (whole_Abs n) ?_ rfl ?_
        · simp (disch:=first|exact dd|fail) only [go_sem,seval,natD_u32s]
          try exact LesV.refl _
        simp (disch:=first|exact dd|fail) only [go_sem,seval,he]
        refine AAny_free 3 [4,5,6,7,10,11,12] (by decide +kernel) rfl ?_
        refine AI_at _ rfl ?_
        simp (disch:=first|exact dd|fail) only [go_sem,seval,he]
        refine callCl (nat_Div (a:=n.natAbs) (b:=g) (by omega) (by omega) hg0) ?_ rfl ?_
        · simp (disch:=first|exact dd|fail) only [go_sem,seval,natD_u32s]
          try exact LesV.refl _
        simp (disch:=first|exact dd|fail) only [go_sem,seval,he]
        refine AAny_free 4 [5,6,7,10,11,12] (by decide +kernel) rfl ?_
        refine AI_at _ rfl ?_
        simp (disch:=first|exact dd|fail) only [go_sem,seval,he]
        refine AAny_free 5 [6,7,10,11,12] (by decide +kernel) rfl ?_
        refine AI_at _ rfl ?_
        simp (disch:=first|exact dd|fail) only [go_sem,seval,he]
        refine AAny_free 6 [7,10,11,12] (by decide +kernel) rfl ?_
        refine AI_at _ rfl ?_
        simp (disch:=first|exact dd|fail) only [go_sem,seval,he]
        refine AAny_free 7 [10,11,12] (by decide +kernel) rfl ?_
        refine AI_at _ rfl ?_
        simp (disch:=first|exact dd|fail) only [go_sem,seval,he]
        refine AAny_free 10 [11,12] (by decide +kernel) rfl ?_
        refine AI_at _ rfl ?_
        simp (disch:=first|exact dd|fail) only [go_sem,seval,he]
        refine AAny_free 11 [12] (by decide +kernel) rfl ?_
        refine AI_at _ rfl ?_
        simp (disch:=first|exact dd|fail) only [go_sem,seval,he]
        refine AAny_free 12 [] (by decide +kernel) rfl ?_
        refine AI_at _ rfl ?_
        simp (disch:=first|exact dd|fail) only [go_sem,seval,he]
        refine AAny_end ?_
        first | (refine tail2 _ ?_;simp (disch:=first|exact dd|fail) only [go_sem,seval,he];done) | (refine tail3 _ ?_;simp (disch:=first|exact dd|fail) only [go_sem,seval,he];done)
      refine forall_one ?_
      refine AI_at _ rfl ?_
      simp (disch:=first|exact dd|fail) only [go_sem,seval,he]
      refine AAny_step [(1,[3,4,5,6,7,8,10,11,12]),(8,[1,3,4,5,6,7,10,11,12])] (by decide +kernel) rfl ?_
      refine forall_more ?_ ?_
      · refine AI_at _ rfl ?_
        simp (disch:=first|exact dd|fail) only [go_sem,seval,he]
        refine callCl (whole_Abs n) ?_ rfl ?_
        · simp (disch:=first|exact dd|fail) only [go_sem,seval,natD_u32s]
          try exact LesV.refl _
        simp (disch:=first|exact dd|fail) only [go_sem,seval,he]
        refine AAny_step [(3,[4,5,6,7,8,10,11,12]),(8,[3,4,5,6,7,10,11,12])] (by decide +kernel) rfl ?_
        refine forall_more ?_ ?_
        · refine AI_at _ rfl ?_
          simp (disch:=first|exact dd|fail) only [go_sem,seval,he]
          refine callCl (nat_Div (a:=n.natAbs) (b:=g) (by omega) (by omega) hg0) ?_ rfl ?_
          · simp (disch:=first|exact dd|fail) only [go_sem,seval,natD_u32s]
            try exact LesV.refl _
          simp (disch:=first|exact dd|fail) only [go_sem,seval,he]
          refine AAny_free 4 [5,6,7,8,10,11,12] (by decide +kernel) rfl ?_
          refine AI_at _ rfl ?_
          simp (disch:=first|exact dd|fail) only [go_sem,seval,he]
          refine AAny_free 5 [6,7,8,10,11,12] (by decide +kernel) rfl ?_
          refine AI_at _ rfl ?_
          simp (disch:=first|exact dd|fail) only [go_sem,seval,he]
          refine AAny_free 6 [7,8,10,11,12] (by decide +kernel) rfl ?_
          refine AI_at _ rfl ?_
          simp (disch:=first|exact dd|fail) only [go_sem,seval,he]
          refine AAny_free 7 [8,10,11,12] (by decide +kernel) rfl ?_
          refine AI_at _ rfl ?_
          simp (disch:=first|exact dd|fail) only [go_sem,seval,he]
          refine AAny_free 8 [10,11,12] (by decide +kernel) rfl ?_
          refine AI_at _ rfl ?_
          simp (disch:=first|exact dd|fail) only [go_sem,seval,he]
          refine AAny_free 10 [11,12] (by decide +kernel) rfl ?_
          refine AI_at _ rfl ?_
          simp (disch:=first|exact dd|fail) only [go_sem,seval,he]
          refine AAny_free 11 [12] (by decide +kernel) rfl ?_
          refine AI_at _ rfl ?_
          simp (disch:=first|exact dd|fail) only [go_sem,seval,he]
          refine AAny_free 12 [] (by decide +kernel) rfl ?_
          refine AI_at _ rfl ?_
          simp (disch:=first|exact dd|fail) only [go_sem,seval,he]
          refine AAny_end ?_
          first | (refine tail2 _ ?_;simp (disch:=first|exact dd|fail) only [go_sem,seval,he];done) | (refine tail3 _ ?_;simp (disch:=first|exact dd|fail) only [go_sem,seval,he];done)
        refine forall_one ?_
        refine AI_at _ rfl ?_
        simp (disch:=first|exact dd|fail) only [go_sem,seval,he]
        refine AAny_free 3 [4,5,6,7,10,11,12] (by decide +kernel) rfl ?_
        refine AI_at _ rfl ?_
        simp (disch:=first|exact dd|fail) only [go_sem,seval,he]
        refine callCl (nat_Div (a:=n.natAbs) (b:=g) (by omega) (by omega) hg0) ?_ rfl ?_
        · simp (disch:=first|exact dd|fail) only [go_sem,seval,natD_u32s]
          try exact LesV.refl _
        simp (disch:=first|exact dd|fail) only [go_sem,seval,he]
        refine AAny_free 4 [5,6,7,10,11,12] (by decide +kernel) rfl ?_
        refine AI_at _ rfl ?_
        simp (disch:=first|exact dd|fail) only [go_sem,seval,he]
        refine AAny_free 5 [6,7,10,11,12] (by decide +kernel) rfl ?_
        refine AI_at _ rfl ?_
        simp (disch:=first|exact dd|fail) only [go_sem,seval,he]
        refine AAny_free 6 [7,10,11,12] (by decide +kernel) rfl ?_
        refine AI_at _ rfl ?_
        simp (disch:=first|exact dd|fail) only [go_sem,seval,he]
        refine AAny_free 7 [10,11,12] (by decide +kernel) rfl ?_
        refine AI_at _ rfl ?_
        simp (disch:=first|exact dd|fail) only [go_sem,seval,he]
        refine AAny_free 10 [11,12] (by decide +kernel) rfl ?_
        refine AI_at _ rfl ?_
        simp (disch:=first|exact dd|fail) only [go_sem,seval,he]
        refine AAny_free 11 [12] (by decide +kernel) rfl ?_
        refine AI_at _ rfl ?_
        simp (disch:=first|exact dd|fail) only [go_sem,seval,he]
        refine AAny_free 12 [] (by decide +kernel) rfl ?_
        refine AI_at _ rfl ?_
        simp (disch:=first|exact dd|fail) only [go_sem,seval,he]
        refine AAny_end ?_
        first | (refine tail2 _ ?_;simp (disch:=first|exact dd|fail) only [go_sem,seval,he];done) | (refine tail3 _ ?_;simp (disch:=first|exact dd|fail) only [go_sem,seval,he];done)
      refine forall_one ?_
      refine AI_at _ rfl ?_
      simp (disch:=first|exact dd|fail) only [go_sem,seval,he]
      refine AAny_free 1 [3,4,5,6,7,10,11,12] (by decide +kernel) rfl ?_
      refine AI_at _ rfl ?_
      simp (disch:=first|exact dd|fail) only [go_sem,seval,he]
      refine callCl (whole_Abs n) ?_ rfl ?_
      · simp (disch:=first|exact dd|fail) only [go_sem,seval,natD_u32s]
        try exact LesV.refl _
      simp (disch:=first|exact dd|fail) only [go_sem,seval,he]
      refine AAny_free 3 [4,5,6,7,10,11,12] (by decide +kernel) rfl ?_
      refine AI_at _ rfl ?_
      simp (disch:=first|exact dd|fail) only [go_sem,seval,he]
      refine callCl (nat_Div (a:=n.natAbs) (b:=g) (by omega) (by omega) hg0) ?_ rfl ?_
      · simp (disch:=first|exact dd|fail) only [go_sem,seval,natD_u32s]
        try exact LesV.refl _
      simp (disch:=first|exact dd|fail) only [go_sem,seval,he]
      refine AAny_free 4 [5,6,7,10,11,12] (by decide +kernel) rfl ?_
      refine AI_at _ rfl ?_
      simp (disch:=first|exact dd|fail) only [go_sem,seval,he]
      refine AAny_free 5 [6,7,10,11,12] (by decide +kernel) rfl ?_
      refine AI_at _ rfl ?_
      simp (disch:=first|exact dd|fail) only [go_sem,seval,he]
      refine AAny_free 6 [7,10,11,12] (by decide +kernel) rfl ?_
      refine AI_at _ rfl ?_
      simp (disch:=first|exact dd|fail) only [go_sem,seval,he]
      refine AAny_free 7 [10,11,12] (by decide +kernel) rfl ?_
      refine AI_at _ rfl ?_
      simp (disch:=first|exact dd|fail) only [go_sem,seval,he]
      refine AAny_free 10 [11,12] (by decide +kernel) rfl ?_
      refine AI_at _ rfl ?_
      simp (disch:=first|exact dd|fail) only [go_sem,seval,he]
      refine AAny_free 11 [12] (by decide +kernel) rfl ?_
      refine AI_at _ rfl ?_
      simp (disch:=first|exact dd|fail) only [go_sem,seval,he]
      refine AAny_free 12 [] (by decide +kernel) rfl ?_
      refine AI_at _ rfl ?_
      simp (disch:=first|exact dd|fail) only [go_sem,seval,he]
      refine AAny_end ?_
      first | (refine tail2 _ ?_;simp (disch:=first|exact dd|fail) only [go_sem,seval,he];done) | (refine tail3 _ ?_;simp (disch:=first|exact dd|fail) only [go_sem,seval,he];done)
    simp only [EnvEq_cons,EnvEq_nil] at he
    simp (disch:=first|exact dd|fail) only [go_sem,seval,he]
    refine callC (nat_Div (a:=d) (b:=g) (by omega) (by omega) hg0) ?_ rfl ?_
    · simp (disch:=first|exact dd|fail) only [go_sem,seval,natD_u32s]
      try exact LesV.refl _
    simp (disch:=first|exact dd|fail) only [go_sem,seval,he]
    refine cL (whole_Sign (z:=n) (by omega)) ?_
    simp (disch:=first|exact dd|fail) only [go_sem,seval,he,hsg]
    refine callCl (whole_From (decide (n < 0)) (n:=n.natAbs / g) (by omega)) ?_ rfl ?_
    · simp (disch:=first|exact dd|fail) only [go_sem,seval,natD_u32s]
      try exact LesV.refl _
    simp (disch:=first|exact dd|fail) only [go_sem,seval,he]
    refine callC (nat_Bits (n:=d / g) (by omega)) ?_ rfl ?_
    · simp (disch:=first|exact dd|fail) only [go_sem,seval,natD_u32s]
      try exact LesV.refl _
    by_cases hd1 : d / g = 1
    · have hb1 : nbit (d / g) = 1:=by rw [hd1];rfl
      simp (disch:=first|exact dd|fail) only [go_sem,seval,he,hb1]
      exact fin1 _ (by rw [mk1];exact hd1) mk2
    · have hb2 : 2 ≤ nbit (d / g):=nbit_two (by omega)
      simp (disch:=first|exact dd|fail) only [go_sem,seval,he]
      exact fin2 _ (by rw [mk1]) (by rw [mk1];exact hd1) mk2
  simp only [EnvEq_cons,EnvEq_nil] at he
  simp (disch:=first|exact dd|fail) only [go_sem,seval,he]
  refine callC (nat_Div (a:=d) (b:=g) (by omega) (by omega) hg0) ?_ rfl ?_
  · simp (disch:=first|exact dd|fail) only [go_sem,seval,natD_u32s]
    try exact LesV.refl _
  simp (disch:=first|exact dd|fail) only [go_sem,seval,he]
  refine cL (whole_Sign (z:=n) (by omega)) ?_
  simp (disch:=first|exact dd|fail) only [go_sem,seval,he,hsg]
  refine callCl (whole_From (decide (n < 0)) (n:=n.natAbs / g) (by omega)) ?_ rfl ?_
  · simp (disch:=first|exact dd|fail) only [go_sem,seval,natD_u32s]
    try exact LesV.refl _
  simp (disch:=first|exact dd|fail) only [go_sem,seval,he]
  refine callC (nat_Bits (n:=d / g) (by omega)) ?_ rfl ?_
  · simp (disch:=first|exact dd|fail) only [go_sem,seval,natD_u32s]
    try exact LesV.refl _
  by_cases hd1 : d / g = 1
  · have hb1 : nbit (d / g) = 1:=by rw [hd1];rfl
    simp (disch:=first|exact dd|fail) only [go_sem,seval,he,hb1]
    exact fin1 _ (by rw [mk1];exact hd1) mk2
  · have hb2 : 2 ≤ nbit (d / g):=nbit_two (by omega)
    simp (disch:=first|exact dd|fail) only [go_sem,seval,he]
    exact fin2 _ (by rw [mk1]) (by rw [mk1];exact hd1) mk2
theorem dOf_pos {n : Nat} (h : n ≠ 0) : dOf n = n:=by unfold dOf;rw [if_neg h]
theorem mk_num_le (n : Int) {d : Nat} (hd : d ≠ 0) : zb (mkRat n d).num ≤ zb n ∧ nb (mkRat n d).den ≤ nb d:=by
  obtain ⟨h1,_,h3⟩:=mk_parts n d hd
  unfold zb
  rw [h1,h3]
  exact ⟨nb_mono (Nat.div_le_self _ _),nb_mono (Nat.div_le_self _ _)⟩
def qb (k : Nat) (q : Rat) : Prop:=zb q.num ≤ k ∧ nb q.den ≤ k
theorem qb.qs {k : Nat} {q : Rat} (h : qb k q) (hk : k < 100000000) : qs q:=⟨Nat.lt_of_le_of_lt h.1 hk,Nat.lt_of_le_of_lt h.2 hk⟩
theorem qb.mono {j k : Nat} {q : Rat} (h : qb j q) (hk : j ≤ k) : qb k q:=⟨Nat.le_trans h.1 hk,Nat.le_trans h.2 hk⟩
end Go.Proofs.YtakaojkfipnfcaaGreatDoor.Lv
