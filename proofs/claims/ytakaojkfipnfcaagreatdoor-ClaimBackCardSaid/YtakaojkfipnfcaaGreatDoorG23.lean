/- The program's dyadic numbers: Parse, Rat. The document's quotients: RatMul, RatAdd, Half, Mid. The document's quotients: Half, Mid. The document's quotients and boxes: RatNeg, RatSub, Width, BoxRight. The document's boxes: Widest; law5.Of. The document's boxes: Widest of a box; law5.Of of what is none. The abstract machine: two nil slices as empty rows of the call's own. The document's boxes: law5.Of of what is none; any sides. Boxes: the middle; the document's halves. Intervals: hull, within, has; the document's; a number as a text. A number as a text; the least interval of some. Two boxes: hull. Two boxes: within, meets, has; the document's. The law of two boxes. The abstract machine: a nil slice in a variable as an empty row of the call's own. -/
import Derived.Test.YtakaojkfipnfcaaGreatDoorG22
import Derived.Test.YtakaojkfipnfcaaGreatDoorG13
import Derived.Test.YtakaojkfipnfcaaGreatDoorG19
import Derived.Test.YtakaojkfipnfcaaGreatDoorG21
import Derived.Test.YtakaojkfipnfcaaGreatDoorG18
import Derived.Test.YtakaojkfipnfcaaGreatDoorG10
set_option linter.unusedVariables false
set_option linter.unusedSimpArgs false
set_option maxRecDepth 100000
set_option maxHeartbeats 4000000
namespace Go.Proofs.YtakaojkfipnfcaaGreatDoor.Lv
open Go Go.RowKit
def shiftZ (m n : Int) : Int:=mkZ (decide (m < 0)) (m.natAbs * 2 ^ shN n)
theorem dyad_shifted {m n : Int} (hm : zb m < 100000000) : C E 138 [zD m, .int .i64 n] (zD (shiftZ m n)):=by
  refine CG_intro Tryz.func138 rfl (by kernel_rfl) rfl (by kernel_rfl) (by kernel_rfl) rfl ?_
  unfold zb at hm
  have hS:=whole_Sign (z:=m) (by omega)
  have hA:=whole_Abs m
  have hL:=nat_Shl (a:=m.natAbs) (by omega) n
  have hsg:=sg_neg m
  have hnb : nb (m.natAbs * 2 ^ shN n) < 1073741824:=by
    have h1:=nb_mul m.natAbs (2 ^ shN n)
    have h2 : nb (2 ^ shN n) ≤ shN n / 32 + 1:=nb_lt.2 (by
      rw [show (4294967296 : Nat) = 2 ^ 32 by rfl,← Nat.pow_mul]
      exact Nat.pow_lt_pow_right (by omega) (by omega))
    have h3:=shN_le n
    omega
  have hF:=whole_From (decide (m < 0)) hnb
  unfold shiftZ
  generalize m.natAbs * 2 ^ shN n = x at *
  simp (disch:=first|exact dd|fail) only [go_sem,seval]
  refine cL hS ?_
  simp (disch:=first|exact dd|fail) only [go_sem,seval,hsg]
  refine cL hA ?_
  simp (disch:=first|exact dd|fail) only [go_sem,seval]
  refine cL hL ?_
  simp (disch:=first|exact dd|fail) only [go_sem,seval]
  refine cL hF ?_
  simp (disch:=first|exact dd|fail) only [go_sem,seval]
  try exact LeV.refl _
theorem dyq_pow {q : Rat} (h : dyq q) : q.den = 2 ^ tz q.den:=by
  unfold dyq at h
  obtain ⟨a,ha⟩:=tz_spec (n:=q.den) (by have:=q.den_pos;omega)
  have h1:=(nbit_lt (n:=q.den) (k:=tz q.den + 1)).1 (by omega)
  generalize tz q.den = k at *
  rw [Nat.pow_succ] at h1
  have hp:=Nat.two_pow_pos k
  have : a = 0:=by
    rcases Nat.eq_zero_or_pos a with h2 | h2
    · exact h2
    · have : 2 ^ k * 3 ≤ 2 ^ k * (2 * a + 1):=Nat.mul_le_mul_left _ (by omega)
      omega
  rw [ha,this]
  simp
theorem dy_back {q : Rat} (hq : qb 30000 q) (hd : dyq q) : shiftZ (odZ q.num) (odE q.num (-(tz q.den : Int))) = q.num ∧ shiftZ 1 (-(odE q.num (-(tz q.den : Int)))) = (q.den : Int) ∨ q.num = 0 ∧ q = 0 ∧ shiftZ (odZ q.num) (odE q.num (-(tz q.den : Int))) = 0 ∧ shiftZ 1 (-(odE q.num (-(tz q.den : Int)))) = 1:=by
  have hp:=dyq_pow hd
  have hred:=q.reduced
  by_cases h0 : q.num = 0
  · right
    have hq0 : q = 0:=Rat.num_eq_zero.1 h0
    refine ⟨h0,hq0, ?_, ?_⟩
    · rw [h0]
      have e1 : odZ 0 = 0:=rfl
      rw [e1]
      unfold shiftZ mkZ
      simp
    · rw [h0]
      have e2 : odE 0 (-(tz q.den : Int)) = 0:=rfl
      rw [e2]
      rfl
  · left
    have hn1:=hq.1
    unfold zb at hn1
    have hb:=nbit_nb q.num.natAbs
    have hbd:=nbit_nb q.den
    have hd2:=hq.2
    have ht:=tz_le q.num.natAbs
    have htd:=tz_le q.den
    have hm0 : q.num.natAbs ≠ 0:=by omega
    obtain ⟨a,ha⟩:=tz_spec hm0
    have e1 : odZ q.num = mkZ (decide (q.num < 0)) (q.num.natAbs / 2 ^ tz q.num.natAbs):=by unfold odZ;rw [if_neg h0,shN_id (by omega)]
    have e2 : odE q.num (-(tz q.den : Int)) = -(tz q.den : Int) + tz q.num.natAbs:=by unfold odE;rw [if_neg h0]
    have hdiv : q.num.natAbs / 2 ^ tz q.num.natAbs * 2 ^ tz q.num.natAbs = q.num.natAbs:=by
      conv => lhs;rw [ha]
      rw [← ha]
      exact Nat.div_mul_cancel ⟨2 * a + 1,ha⟩
    have hpos : 0 < q.num.natAbs / 2 ^ tz q.num.natAbs:=by
      rcases Nat.eq_zero_or_pos (q.num.natAbs / 2 ^ tz q.num.natAbs) with h | h
      · rw [h] at hdiv;omega
      · exact h
    have hsgn : decide (odZ q.num < 0) = decide (q.num < 0):=by
      rw [e1,mkZ_neg,decide_eq_true hpos,Bool.and_true]
    have habs : (odZ q.num).natAbs = q.num.natAbs / 2 ^ tz q.num.natAbs:=by rw [e1,mkZ_abs]
    by_cases hk : tz q.den = 0
    · have ed : q.den = 1:=by rw [hp,hk]
      rw [e2,hk]
      have e3 : -((0 : Nat) : Int) + (tz q.num.natAbs : Int) = (tz q.num.natAbs : Int):=by omega
      rw [e3]
      constructor
      · unfold shiftZ
        rw [hsgn,habs,shN_id (by omega),hdiv,mkZ_self]
      · have e4 : shN (-(tz q.num.natAbs : Int)) = 0:=by unfold shN;omega
        unfold shiftZ
        rw [e4,ed]
        rfl
    · have ht0 : tz q.num.natAbs = 0:=by
        rcases Nat.eq_zero_or_pos (tz q.num.natAbs) with h | h
        · exact h
        · exfalso
          have d1 : 2 ∣ q.num.natAbs:=by
            rw [ha,show tz q.num.natAbs = (tz q.num.natAbs - 1) + 1 by omega,Nat.pow_succ]
            exact ⟨2 ^ (tz q.num.natAbs - 1) * (2 * a + 1),by simp only [Nat.mul_assoc,Nat.mul_comm,Nat.mul_left_comm]⟩
          have d2 : 2 ∣ q.den:=by
            rw [hp,show tz q.den = (tz q.den - 1) + 1 by omega,Nat.pow_succ]
            exact ⟨2 ^ (tz q.den - 1),Nat.mul_comm _ _⟩
          have:=Nat.dvd_gcd d1 d2
          rw [hred] at this
          omega
      rw [e2,ht0]
      constructor
      · have e4 : shN (-(tz q.den : Int) + ((0 : Nat) : Int)) = 0:=by unfold shN;omega
        unfold shiftZ
        rw [hsgn,habs,e4,ht0]
        rw [ht0] at hdiv
        rw [hdiv,mkZ_self]
      · have e4 : shN (-(-(tz q.den : Int) + ((0 : Nat) : Int))) = tz q.den:=by
          rw [show -(-(tz q.den : Int) + ((0 : Nat) : Int)) = (tz q.den : Int) by omega]
          exact shN_id (by omega)
        unfold shiftZ
        rw [e4,show (1 : Int).natAbs = 1 from rfl,Nat.one_mul,← hp]
        rfl
theorem dyad_Rat {q : Rat} (hq : qb 30000 q) (hd : dyq q) : C E 94 [dyD (odZ q.num) (odE q.num (-(tz q.den : Int)))] (qD q):=by
  refine CG_intro Tryz.func94 rfl (by kernel_rfl) rfl (by kernel_rfl) (by kernel_rfl) rfl ?_
  have hback:=dy_back hq hd
  have h1:=hq.1
  have h2:=hq.2
  have hob : zb (odZ q.num) ≤ zb q.num:=by
    unfold odZ
    split
    · unfold zb;rw [Int.natAbs_zero];exact nb_mono (Nat.zero_le _)
    · unfold zb
      rw [mkZ_abs]
      exact nb_mono (Nat.div_le_self _ _)
  have s1:=dyad_shifted (m:=odZ q.num) (n:=odE q.num (-(tz q.den : Int))) (by omega)
  have hO:=whole_Of (v:=1) (by omega) (by omega)
  have z1 : zb 1 ≤ 1:=by show nb 1 ≤ 1;exact nb_lt.2 (by omega)
  have s2:=dyad_shifted (m:=1) (n:=-(odE q.num (-(tz q.den : Int)))) (by omega)
  have hte : -4000000 ≤ odE q.num (-(tz q.den : Int)) ∧ odE q.num (-(tz q.den : Int)) ≤ 4000000:=by
    have ht:=tz_le q.num.natAbs
    have htd:=tz_le q.den
    have hb:=nbit_nb q.num.natAbs
    have hbd:=nbit_nb q.den
    unfold zb at h1
    unfold odE
    split <;> omega
  have hew : IntKind.i64.wrap (0 - odE q.num (-(tz q.den : Int))) = -(odE q.num (-(tz q.den : Int))):=by
    rw [wrap_i64 (by omega)];omega
  rcases hback with ⟨b1,b2⟩ | ⟨b0,b1,b2,b3⟩
  · rw [b1] at s1
    rw [b2] at s2
    have hN:=rat_New (n:=q.num) (d:=(q.den : Int)) (by omega) (by unfold zb;rw [Int.natAbs_natCast];omega) (by have:=q.den_pos;omega)
    rw [Int.natAbs_natCast,Rat.mkRat_self] at hN
    generalize odE q.num (-(tz q.den : Int)) = e at *
    simp (disch:=first|exact dd|fail) only [go_sem,seval]
    refine AReg_anyL 17 [0,1,2,3,4,5,6,7,8,9,10,11,12,13,14,15,16] rfl rfl (by decide +kernel) ?_
    refine AAny_free 0 [1,2,3,4,5,6,7,8,9,10,11,12,13,14,15,16] (by decide +kernel) rfl ?_
    refine AI_at _ rfl ?_
    simp (disch:=first|exact dd|fail) only [go_sem,seval,hew]
    refine AAny_free 1 [2,3,4,5,6,7,8,9,10,11,12,13,14,15,16] (by decide +kernel) rfl ?_
    refine AI_at _ rfl ?_
    simp (disch:=first|exact dd|fail) only [go_sem,seval,hew]
    refine AAny_free 2 [3,4,5,6,7,8,9,10,11,12,13,14,15,16] (by decide +kernel) rfl ?_
    refine AI_at _ rfl ?_
    simp (disch:=first|exact dd|fail) only [go_sem,seval,hew]
    refine AAny_free 3 [4,5,6,7,8,9,10,11,12,13,14,15,16] (by decide +kernel) rfl ?_
    refine AI_at _ rfl ?_
    simp (disch:=first|exact dd|fail) only [go_sem,seval,hew]
    refine AAny_free 6 [4,5,7,8,9,10,11,12,13,14,15,16] (by decide +kernel) rfl ?_
    refine AI_at _ rfl ?_
    simp (disch:=first|exact dd|fail) only [go_sem,seval,hew]
    refine AAny_free 7 [4,5,8,9,10,11,12,13,14,15,16] (by decide +kernel) rfl ?_
    refine AI_at _ rfl ?_
    simp (disch:=first|exact dd|fail) only [go_sem,seval,hew]
    refine AAny_free 8 [4,5,9,10,11,12,13,14,15,16] (by decide +kernel) rfl ?_
    refine AI_at _ rfl ?_
    simp (disch:=first|exact dd|fail) only [go_sem,seval,hew]
    refine AAny_step [(4,[5,9,10,11,12,13,14,15,16]),(14,[4,5,9,10,11,12,13,15,16])] (by decide +kernel) rfl ?_
    refine forall_more ?_ ?_
    · refine AI_at _ rfl ?_
      simp (disch:=first|exact dd|fail) only [go_sem,seval,hew]
      refine cA s1 ?_
      simp (disch:=first|exact dd|fail) only [go_sem,seval]
      refine AAny_step [(5,[9,10,11,12,13,14,15,16]),(14,[5,9,10,11,12,13,15,16])] (by decide +kernel) rfl ?_
      refine forall_more ?_ ?_
      · refine AI_at _ rfl ?_
        simp (disch:=first|exact dd|fail) only [go_sem,seval,hew]
        refine cA hO ?_
        simp (disch:=first|exact dd|fail) only [go_sem,seval]
        refine AAny_step [(9,[10,11,12,13,14,15,16]),(14,[9,10,11,12,13,15,16])] (by decide +kernel) rfl ?_
        refine forall_more ?_ ?_
        · refine AI_at _ rfl ?_
          simp (disch:=first|exact dd|fail) only [go_sem,seval,hew]
          refine cA s2 ?_
          simp (disch:=first|exact dd|fail) only [go_sem,seval]
          refine AAny_step [(10,[11,12,13,14,15,16]),(14,[10,11,12,13,15,16])] (by decide +kernel) rfl ?_
          refine forall_more ?_ ?_
          · refine AI_at _ rfl ?_
            simp (disch:=first|exact dd|fail) only [go_sem,seval,hew]
            refine cA hN ?_
            simp (disch:=first|exact dd|fail) only [go_sem,seval]
            refine AAny_free 11 [12,13,14,15,16] (by decide +kernel) rfl ?_
            refine AI_at _ rfl ?_
            simp (disch:=first|exact dd|fail) only [go_sem,seval,hew]
            refine AAny_free 12 [13,14,15,16] (by decide +kernel) rfl ?_
            refine AI_at _ rfl ?_
            simp (disch:=first|exact dd|fail) only [go_sem,seval,hew]
            refine AAny_free 13 [14,15,16] (by decide +kernel) rfl ?_
            refine AI_at _ rfl ?_
            simp (disch:=first|exact dd|fail) only [go_sem,seval,hew]
            refine AAny_free 14 [15,16] (by decide +kernel) rfl ?_
            refine AI_at _ rfl ?_
            simp (disch:=first|exact dd|fail) only [go_sem,seval,hew]
            refine AAny_free 15 [16] (by decide +kernel) rfl ?_
            refine AI_at _ rfl ?_
            simp (disch:=first|exact dd|fail) only [go_sem,seval,hew]
            refine AAny_free 16 [] (by decide +kernel) rfl ?_
            refine AI_at _ rfl ?_
            simp (disch:=first|exact dd|fail) only [go_sem,seval,hew]
            refine AAny_end ?_
            simp (disch:=first|exact dd|fail) only [go_sem,seval]
            try exact LeV.refl _
          refine forall_one ?_
          refine AI_at _ rfl ?_
          simp (disch:=first|exact dd|fail) only [go_sem,seval,hew]
          refine AAny_free 10 [11,12,13,15,16] (by decide +kernel) rfl ?_
          refine AI_at _ rfl ?_
          simp (disch:=first|exact dd|fail) only [go_sem,seval,hew]
          refine cA hN ?_
          simp (disch:=first|exact dd|fail) only [go_sem,seval]
          refine AAny_free 11 [12,13,15,16] (by decide +kernel) rfl ?_
          refine AI_at _ rfl ?_
          simp (disch:=first|exact dd|fail) only [go_sem,seval,hew]
          refine AAny_free 12 [13,15,16] (by decide +kernel) rfl ?_
          refine AI_at _ rfl ?_
          simp (disch:=first|exact dd|fail) only [go_sem,seval,hew]
          refine AAny_free 13 [15,16] (by decide +kernel) rfl ?_
          refine AI_at _ rfl ?_
          simp (disch:=first|exact dd|fail) only [go_sem,seval,hew]
          refine AAny_free 15 [16] (by decide +kernel) rfl ?_
          refine AI_at _ rfl ?_
          simp (disch:=first|exact dd|fail) only [go_sem,seval,hew]
          refine AAny_free 16 [] (by decide +kernel) rfl ?_
          refine AI_at _ rfl ?_
          simp (disch:=first|exact dd|fail) only [go_sem,seval,hew]
          refine AAny_end ?_
          simp (disch:=first|exact dd|fail) only [go_sem,seval]
          try exact LeV.refl _
        refine forall_one ?_
        refine AI_at _ rfl ?_
        simp (disch:=first|exact dd|fail) only [go_sem,seval,hew]
        refine AAny_free 9 [10,11,12,13,15,16] (by decide +kernel) rfl ?_
        refine AI_at _ rfl ?_
        simp (disch:=first|exact dd|fail) only [go_sem,seval,hew]
        refine cA s2 ?_
        simp (disch:=first|exact dd|fail) only [go_sem,seval]
        refine AAny_free 10 [11,12,13,15,16] (by decide +kernel) rfl ?_
        refine AI_at _ rfl ?_
        simp (disch:=first|exact dd|fail) only [go_sem,seval,hew]
        refine cA hN ?_
        simp (disch:=first|exact dd|fail) only [go_sem,seval]
        refine AAny_free 11 [12,13,15,16] (by decide +kernel) rfl ?_
        refine AI_at _ rfl ?_
        simp (disch:=first|exact dd|fail) only [go_sem,seval,hew]
        refine AAny_free 12 [13,15,16] (by decide +kernel) rfl ?_
        refine AI_at _ rfl ?_
        simp (disch:=first|exact dd|fail) only [go_sem,seval,hew]
        refine AAny_free 13 [15,16] (by decide +kernel) rfl ?_
        refine AI_at _ rfl ?_
        simp (disch:=first|exact dd|fail) only [go_sem,seval,hew]
        refine AAny_free 15 [16] (by decide +kernel) rfl ?_
        refine AI_at _ rfl ?_
        simp (disch:=first|exact dd|fail) only [go_sem,seval,hew]
        refine AAny_free 16 [] (by decide +kernel) rfl ?_
        refine AI_at _ rfl ?_
        simp (disch:=first|exact dd|fail) only [go_sem,seval,hew]
        refine AAny_end ?_
        simp (disch:=first|exact dd|fail) only [go_sem,seval]
        try exact LeV.refl _
      refine forall_one ?_
      refine AI_at _ rfl ?_
      simp (disch:=first|exact dd|fail) only [go_sem,seval,hew]
      refine AAny_free 5 [9,10,11,12,13,15,16] (by decide +kernel) rfl ?_
      refine AI_at _ rfl ?_
      simp (disch:=first|exact dd|fail) only [go_sem,seval,hew]
      refine cA hO ?_
      simp (disch:=first|exact dd|fail) only [go_sem,seval]
      refine AAny_free 9 [10,11,12,13,15,16] (by decide +kernel) rfl ?_
      refine AI_at _ rfl ?_
      simp (disch:=first|exact dd|fail) only [go_sem,seval,hew]
      refine cA s2 ?_
      simp (disch:=first|exact dd|fail) only [go_sem,seval]
      refine AAny_free 10 [11,12,13,15,16] (by decide +kernel) rfl ?_
      refine AI_at _ rfl ?_
      simp (disch:=first|exact dd|fail) only [go_sem,seval,hew]
      refine cA hN ?_
      simp (disch:=first|exact dd|fail) only [go_sem,seval]
      refine AAny_free 11 [12,13,15,16] (by decide +kernel) rfl ?_
      refine AI_at _ rfl ?_
      simp (disch:=first|exact dd|fail) only [go_sem,seval,hew]
      refine AAny_free 12 [13,15,16] (by decide +kernel) rfl ?_
      refine AI_at _ rfl ?_
      simp (disch:=first|exact dd|fail) only [go_sem,seval,hew]
      refine AAny_free 13 [15,16] (by decide +kernel) rfl ?_
      refine AI_at _ rfl ?_
      simp (disch:=first|exact dd|fail) only [go_sem,seval,hew]
      refine AAny_free 15 [16] (by decide +kernel) rfl ?_
      refine AI_at _ rfl ?_
      simp (disch:=first|exact dd|fail) only [go_sem,seval,hew]
      refine AAny_free 16 [] (by decide +kernel) rfl ?_
      refine AI_at _ rfl ?_
      simp (disch:=first|exact dd|fail) only [go_sem,seval,hew]
      refine AAny_end ?_
      simp (disch:=first|exact dd|fail) only [go_sem,seval]
      try exact LeV.refl _
    refine forall_one ?_
    refine AI_at _ rfl ?_
    simp (disch:=first|exact dd|fail) only [go_sem,seval,hew]
    refine AAny_free 4 [5,9,10,11,12,13,15,16] (by decide +kernel) rfl ?_
    refine AI_at _ rfl ?_
    simp (disch:=first|exact dd|fail) only [go_sem,seval,hew]
    refine cA s1 ?_
    simp (disch:=first|exact dd|fail) only [go_sem,seval]
    refine AAny_free 5 [9,10,11,12,13,15,16] (by decide +kernel) rfl ?_
    refine AI_at _ rfl ?_
    simp (disch:=first|exact dd|fail) only [go_sem,seval,hew]
    refine cA hO ?_
    simp (disch:=first|exact dd|fail) only [go_sem,seval]
    refine AAny_free 9 [10,11,12,13,15,16] (by decide +kernel) rfl ?_
    refine AI_at _ rfl ?_
    simp (disch:=first|exact dd|fail) only [go_sem,seval,hew]
    refine cA s2 ?_
    simp (disch:=first|exact dd|fail) only [go_sem,seval]
    refine AAny_free 10 [11,12,13,15,16] (by decide +kernel) rfl ?_
    refine AI_at _ rfl ?_
    simp (disch:=first|exact dd|fail) only [go_sem,seval,hew]
    refine cA hN ?_
    simp (disch:=first|exact dd|fail) only [go_sem,seval]
    refine AAny_free 11 [12,13,15,16] (by decide +kernel) rfl ?_
    refine AI_at _ rfl ?_
    simp (disch:=first|exact dd|fail) only [go_sem,seval,hew]
    refine AAny_free 12 [13,15,16] (by decide +kernel) rfl ?_
    refine AI_at _ rfl ?_
    simp (disch:=first|exact dd|fail) only [go_sem,seval,hew]
    refine AAny_free 13 [15,16] (by decide +kernel) rfl ?_
    refine AI_at _ rfl ?_
    simp (disch:=first|exact dd|fail) only [go_sem,seval,hew]
    refine AAny_free 15 [16] (by decide +kernel) rfl ?_
    refine AI_at _ rfl ?_
    simp (disch:=first|exact dd|fail) only [go_sem,seval,hew]
    refine AAny_free 16 [] (by decide +kernel) rfl ?_
    refine AI_at _ rfl ?_
    simp (disch:=first|exact dd|fail) only [go_sem,seval,hew]
    refine AAny_end ?_
    simp (disch:=first|exact dd|fail) only [go_sem,seval]
    try exact LeV.refl _
  · rw [b2] at s1
    rw [b3] at s2
    have hN:=rat_New (n:=0) (d:=1) (by show nb 0 < _;rw [nb,limbs_zero];simp) (by omega) (by omega)
    have e0 : mkRat 0 (1 : Int).natAbs = q:=by rw [b1];simp
    rw [e0] at hN
    generalize odE q.num (-(tz q.den : Int)) = e at *
    simp (disch:=first|exact dd|fail) only [go_sem,seval]
    refine AReg_anyL 17 [0,1,2,3,4,5,6,7,8,9,10,11,12,13,14,15,16] rfl rfl (by decide +kernel) ?_
    refine AAny_free 0 [1,2,3,4,5,6,7,8,9,10,11,12,13,14,15,16] (by decide +kernel) rfl ?_
    refine AI_at _ rfl ?_
    simp (disch:=first|exact dd|fail) only [go_sem,seval,hew]
    refine AAny_free 1 [2,3,4,5,6,7,8,9,10,11,12,13,14,15,16] (by decide +kernel) rfl ?_
    refine AI_at _ rfl ?_
    simp (disch:=first|exact dd|fail) only [go_sem,seval,hew]
    refine AAny_free 2 [3,4,5,6,7,8,9,10,11,12,13,14,15,16] (by decide +kernel) rfl ?_
    refine AI_at _ rfl ?_
    simp (disch:=first|exact dd|fail) only [go_sem,seval,hew]
    refine AAny_free 3 [4,5,6,7,8,9,10,11,12,13,14,15,16] (by decide +kernel) rfl ?_
    refine AI_at _ rfl ?_
    simp (disch:=first|exact dd|fail) only [go_sem,seval,hew]
    refine AAny_free 6 [4,5,7,8,9,10,11,12,13,14,15,16] (by decide +kernel) rfl ?_
    refine AI_at _ rfl ?_
    simp (disch:=first|exact dd|fail) only [go_sem,seval,hew]
    refine AAny_free 7 [4,5,8,9,10,11,12,13,14,15,16] (by decide +kernel) rfl ?_
    refine AI_at _ rfl ?_
    simp (disch:=first|exact dd|fail) only [go_sem,seval,hew]
    refine AAny_free 8 [4,5,9,10,11,12,13,14,15,16] (by decide +kernel) rfl ?_
    refine AI_at _ rfl ?_
    simp (disch:=first|exact dd|fail) only [go_sem,seval,hew]
    refine AAny_step [(4,[5,9,10,11,12,13,14,15,16]),(14,[4,5,9,10,11,12,13,15,16])] (by decide +kernel) rfl ?_
    refine forall_more ?_ ?_
    · refine AI_at _ rfl ?_
      simp (disch:=first|exact dd|fail) only [go_sem,seval,hew]
      refine cA s1 ?_
      simp (disch:=first|exact dd|fail) only [go_sem,seval]
      refine AAny_step [(5,[9,10,11,12,13,14,15,16]),(14,[5,9,10,11,12,13,15,16])] (by decide +kernel) rfl ?_
      refine forall_more ?_ ?_
      · refine AI_at _ rfl ?_
        simp (disch:=first|exact dd|fail) only [go_sem,seval,hew]
        refine cA hO ?_
        simp (disch:=first|exact dd|fail) only [go_sem,seval]
        refine AAny_step [(9,[10,11,12,13,14,15,16]),(14,[9,10,11,12,13,15,16])] (by decide +kernel) rfl ?_
        refine forall_more ?_ ?_
        · refine AI_at _ rfl ?_
          simp (disch:=first|exact dd|fail) only [go_sem,seval,hew]
          refine cA s2 ?_
          simp (disch:=first|exact dd|fail) only [go_sem,seval]
          refine AAny_step [(10,[11,12,13,14,15,16]),(14,[10,11,12,13,15,16])] (by decide +kernel) rfl ?_
          refine forall_more ?_ ?_
          · refine AI_at _ rfl ?_
            simp (disch:=first|exact dd|fail) only [go_sem,seval,hew]
            refine cA hN ?_
            simp (disch:=first|exact dd|fail) only [go_sem,seval]
            refine AAny_free 11 [12,13,14,15,16] (by decide +kernel) rfl ?_
            refine AI_at _ rfl ?_
            simp (disch:=first|exact dd|fail) only [go_sem,seval,hew]
            refine AAny_free 12 [13,14,15,16] (by decide +kernel) rfl ?_
            refine AI_at _ rfl ?_
            simp (disch:=first|exact dd|fail) only [go_sem,seval,hew]
            refine AAny_free 13 [14,15,16] (by decide +kernel) rfl ?_
            refine AI_at _ rfl ?_
            simp (disch:=first|exact dd|fail) only [go_sem,seval,hew]
            refine AAny_free 14 [15,16] (by decide +kernel) rfl ?_
            refine AI_at _ rfl ?_
            simp (disch:=first|exact dd|fail) only [go_sem,seval,hew]
            refine AAny_free 15 [16] (by decide +kernel) rfl ?_
            refine AI_at _ rfl ?_
            simp (disch:=first|exact dd|fail) only [go_sem,seval,hew]
            refine AAny_free 16 [] (by decide +kernel) rfl ?_
            refine AI_at _ rfl ?_
            simp (disch:=first|exact dd|fail) only [go_sem,seval,hew]
            refine AAny_end ?_
            simp (disch:=first|exact dd|fail) only [go_sem,seval]
            try exact LeV.refl _
          refine forall_one ?_
          refine AI_at _ rfl ?_
          simp (disch:=first|exact dd|fail) only [go_sem,seval,hew]
          refine AAny_free 10 [11,12,13,15,16] (by decide +kernel) rfl ?_
          refine AI_at _ rfl ?_
          simp (disch:=first|exact dd|fail) only [go_sem,seval,hew]
          refine cA hN ?_
          simp (disch:=first|exact dd|fail) only [go_sem,seval]
          refine AAny_free 11 [12,13,15,16] (by decide +kernel) rfl ?_
          refine AI_at _ rfl ?_
          simp (disch:=first|exact dd|fail) only [go_sem,seval,hew]
          refine AAny_free 12 [13,15,16] (by decide +kernel) rfl ?_
          refine AI_at _ rfl ?_
          simp (disch:=first|exact dd|fail) only [go_sem,seval,hew]
          refine AAny_free 13 [15,16] (by decide +kernel) rfl ?_
          refine AI_at _ rfl ?_
          simp (disch:=first|exact dd|fail) only [go_sem,seval,hew]
          refine AAny_free 15 [16] (by decide +kernel) rfl ?_
          refine AI_at _ rfl ?_
          simp (disch:=first|exact dd|fail) only [go_sem,seval,hew]
          refine AAny_free 16 [] (by decide +kernel) rfl ?_
          refine AI_at _ rfl ?_
          simp (disch:=first|exact dd|fail) only [go_sem,seval,hew]
          refine AAny_end ?_
          simp (disch:=first|exact dd|fail) only [go_sem,seval]
          try exact LeV.refl _
        refine forall_one ?_
        refine AI_at _ rfl ?_
        simp (disch:=first|exact dd|fail) only [go_sem,seval,hew]
        refine AAny_free 9 [10,11,12,13,15,16] (by decide +kernel) rfl ?_
        refine AI_at _ rfl ?_
        simp (disch:=first|exact dd|fail) only [go_sem,seval,hew]
        refine cA s2 ?_
        simp (disch:=first|exact dd|fail) only [go_sem,seval]
        refine AAny_free 10 [11,12,13,15,16] (by decide +kernel) rfl ?_
        refine AI_at _ rfl ?_
        simp (disch:=first|exact dd|fail) only [go_sem,seval,hew]
        refine cA hN ?_
        simp (disch:=first|exact dd|fail) only [go_sem,seval]
        refine AAny_free 11 [12,13,15,16] (by decide +kernel) rfl ?_
        refine AI_at _ rfl ?_
        simp (disch:=first|exact dd|fail) only [go_sem,seval,hew]
        refine AAny_free 12 [13,15,16] (by decide +kernel) rfl ?_
        refine AI_at _ rfl ?_
        simp (disch:=first|exact dd|fail) only [go_sem,seval,hew]
        refine AAny_free 13 [15,16] (by decide +kernel) rfl ?_
        refine AI_at _ rfl ?_
        simp (disch:=first|exact dd|fail) only [go_sem,seval,hew]
        refine AAny_free 15 [16] (by decide +kernel) rfl ?_
        refine AI_at _ rfl ?_
        simp (disch:=first|exact dd|fail) only [go_sem,seval,hew]
        refine AAny_free 16 [] (by decide +kernel) rfl ?_
        refine AI_at _ rfl ?_
        simp (disch:=first|exact dd|fail) only [go_sem,seval,hew]
        refine AAny_end ?_
        simp (disch:=first|exact dd|fail) only [go_sem,seval]
        try exact LeV.refl _
      refine forall_one ?_
      refine AI_at _ rfl ?_
      simp (disch:=first|exact dd|fail) only [go_sem,seval,hew]
      refine AAny_free 5 [9,10,11,12,13,15,16] (by decide +kernel) rfl ?_
      refine AI_at _ rfl ?_
      simp (disch:=first|exact dd|fail) only [go_sem,seval,hew]
      refine cA hO ?_
      simp (disch:=first|exact dd|fail) only [go_sem,seval]
      refine AAny_free 9 [10,11,12,13,15,16] (by decide +kernel) rfl ?_
      refine AI_at _ rfl ?_
      simp (disch:=first|exact dd|fail) only [go_sem,seval,hew]
      refine cA s2 ?_
      simp (disch:=first|exact dd|fail) only [go_sem,seval]
      refine AAny_free 10 [11,12,13,15,16] (by decide +kernel) rfl ?_
      refine AI_at _ rfl ?_
      simp (disch:=first|exact dd|fail) only [go_sem,seval,hew]
      refine cA hN ?_
      simp (disch:=first|exact dd|fail) only [go_sem,seval]
      refine AAny_free 11 [12,13,15,16] (by decide +kernel) rfl ?_
      refine AI_at _ rfl ?_
      simp (disch:=first|exact dd|fail) only [go_sem,seval,hew]
      refine AAny_free 12 [13,15,16] (by decide +kernel) rfl ?_
      refine AI_at _ rfl ?_
      simp (disch:=first|exact dd|fail) only [go_sem,seval,hew]
      refine AAny_free 13 [15,16] (by decide +kernel) rfl ?_
      refine AI_at _ rfl ?_
      simp (disch:=first|exact dd|fail) only [go_sem,seval,hew]
      refine AAny_free 15 [16] (by decide +kernel) rfl ?_
      refine AI_at _ rfl ?_
      simp (disch:=first|exact dd|fail) only [go_sem,seval,hew]
      refine AAny_free 16 [] (by decide +kernel) rfl ?_
      refine AI_at _ rfl ?_
      simp (disch:=first|exact dd|fail) only [go_sem,seval,hew]
      refine AAny_end ?_
      simp (disch:=first|exact dd|fail) only [go_sem,seval]
      try exact LeV.refl _
    refine forall_one ?_
    refine AI_at _ rfl ?_
    simp (disch:=first|exact dd|fail) only [go_sem,seval,hew]
    refine AAny_free 4 [5,9,10,11,12,13,15,16] (by decide +kernel) rfl ?_
    refine AI_at _ rfl ?_
    simp (disch:=first|exact dd|fail) only [go_sem,seval,hew]
    refine cA s1 ?_
    simp (disch:=first|exact dd|fail) only [go_sem,seval]
    refine AAny_free 5 [9,10,11,12,13,15,16] (by decide +kernel) rfl ?_
    refine AI_at _ rfl ?_
    simp (disch:=first|exact dd|fail) only [go_sem,seval,hew]
    refine cA hO ?_
    simp (disch:=first|exact dd|fail) only [go_sem,seval]
    refine AAny_free 9 [10,11,12,13,15,16] (by decide +kernel) rfl ?_
    refine AI_at _ rfl ?_
    simp (disch:=first|exact dd|fail) only [go_sem,seval,hew]
    refine cA s2 ?_
    simp (disch:=first|exact dd|fail) only [go_sem,seval]
    refine AAny_free 10 [11,12,13,15,16] (by decide +kernel) rfl ?_
    refine AI_at _ rfl ?_
    simp (disch:=first|exact dd|fail) only [go_sem,seval,hew]
    refine cA hN ?_
    simp (disch:=first|exact dd|fail) only [go_sem,seval]
    refine AAny_free 11 [12,13,15,16] (by decide +kernel) rfl ?_
    refine AI_at _ rfl ?_
    simp (disch:=first|exact dd|fail) only [go_sem,seval,hew]
    refine AAny_free 12 [13,15,16] (by decide +kernel) rfl ?_
    refine AI_at _ rfl ?_
    simp (disch:=first|exact dd|fail) only [go_sem,seval,hew]
    refine AAny_free 13 [15,16] (by decide +kernel) rfl ?_
    refine AI_at _ rfl ?_
    simp (disch:=first|exact dd|fail) only [go_sem,seval,hew]
    refine AAny_free 15 [16] (by decide +kernel) rfl ?_
    refine AI_at _ rfl ?_
    simp (disch:=first|exact dd|fail) only [go_sem,seval,hew]
    refine AAny_free 16 [] (by decide +kernel) rfl ?_
    refine AI_at _ rfl ?_
    simp (disch:=first|exact dd|fail) only [go_sem,seval,hew]
    refine AAny_end ?_
    simp (disch:=first|exact dd|fail) only [go_sem,seval]
    try exact LeV.refl _
def dpO (s : Txt) : Option Rat:=match rpO s with
  | some q => if dyq q then some q else none
  | none => none
def dpD (s : Txt) : D:=match dpO s with
  | some q => .tup [dyD (odZ q.num) (odE q.num (-(tz q.den : Int))), .int .i64 0]
  | none => .tup [dyD 0 0, .int .i64 2]
theorem dyq_zero : dyq 0:=by
  unfold dyq
  show tz 1 + 1 = nbit 1
  rw [tz_odd rfl]
  rfl
theorem qs_nought : qs 0:=⟨by show nb 0 < _;rw [nb,limbs_zero];simp,Nat.lt_of_le_of_lt (nb_lt.2 (show 1 < 4294967296 ^ 1 by omega)) (by omega)⟩
theorem dyad_Parse {s : Txt} (hs : s.length < 9223372036854775808) : C E 93 [.str s] (dpD s):=by
  refine CG_intro Tryz.func93 rfl (by kernel_rfl) rfl (by kernel_rfl) (by kernel_rfl) rfl ?_
  have hP:=rat_Parse s hs
  unfold dpD
  cases hq : rpO s with
  | none =>
    have hdp : dpO s = none:=by unfold dpO;rw [hq]
    rw [hdp]
    rw [rpD_no hq] at hP
    have hO:=dyad_Of (q:=0) qs_nought
    rw [decide_eq_true dyq_zero] at hO
    unfold dyO at hO
    rw [if_pos dyq_zero] at hO
    simp (disch:=first|exact dd|fail) only [go_sem,seval]
    refine cA hP ?_
    simp (disch:=first|exact dd|fail) only [go_sem,seval]
    refine cA hO ?_
    simp (disch:=first|exact dd|fail) only [go_sem,seval]
    exact LeV.tup (LesV.cons LeV_dy0 (LesV.refl _))
  | some q =>
    rw [rpD_yes hq] at hP
    have hO:=dyad_Of (q:=q) ((rpO_qb hq).qs (by omega))
    unfold dyO at hO
    by_cases hd : dyq q
    · rw [decide_eq_true hd,if_pos hd] at hO
      have hdp : dpO s = some q:=by unfold dpO;rw [hq];exact if_pos hd
      rw [hdp]
      simp (disch:=first|exact dd|fail) only [go_sem,seval]
      refine cA hP ?_
      simp (disch:=first|exact dd|fail) only [go_sem,seval]
      refine cA hO ?_
      simp (disch:=first|exact dd|fail) only [go_sem,seval]
      try exact LeV.refl _
    · rw [decide_eq_false hd,if_neg hd] at hO
      have hdp : dpO s = none:=by unfold dpO;rw [hq];exact if_neg hd
      rw [hdp]
      simp (disch:=first|exact dd|fail) only [go_sem,seval]
      refine cA hP ?_
      simp (disch:=first|exact dd|fail) only [go_sem,seval]
      refine cA hO ?_
      simp (disch:=first|exact dd|fail) only [go_sem,seval]
      exact LeV.tup (LesV.cons LeV_dy0 (LesV.refl _))
def qR (l : List Rat) : Nat → D:=fun i => qD (l.getD i 0)
def qlD (l : List Rat) : D:=.ro true 3 l.length (qR l)
section
variable (l : List Rat) (h : Hp) (ρ : Nat → Option Nat)
theorem flat_ql : flat (qlD l) = false:=Eq.trans rfl rfl
theorem imp_ql : imp ρ h (qlD l) = qlD l:=Eq.trans rfl rfl
theorem one_ql : one h (qlD l) = true:=Eq.trans rfl rfl
end
attribute [go_sem] flat_ql imp_ql one_ql
def tR (l : List Txt) : Nat → D:=fun i => .str (l.getD i [])
def tlD (l : List Txt) : D:=.ro false 1 l.length (tR l)
theorem RepVs_set {H : Hp} {φ : Ph} {S : Nat → Prop} {w : World} : ∀ {ds : List D} {vs : List Value} (i : Nat) {d : D},RepVs H φ S w ds vs → (∀ v,vs[i]? = some v → RepV H φ S w d v) → RepVs H φ S w (ds.set i d) vs
  | [],vs,i,d,h,_ => by simpa using h
  | d0 :: ds,vs,0,d,h,hv => by
    simp only [RepVs,List.set_cons_zero] at h ⊢
    obtain ⟨v,vs',rfl,h1,h2⟩:=h
    exact ⟨v,vs',rfl,hv v rfl,h2⟩
  | d0 :: ds,vs,i + 1,d,h,hv => by
    simp only [RepVs,List.set_cons_succ] at h ⊢
    obtain ⟨v,vs',rfl,h1,h2⟩:=h
    exact ⟨v,vs',rfl,h1,RepVs_set i h2 fun u hu => hv u (by simpa using hu)⟩
theorem Wk.nilV {n : Nat} {e : Nat → D} {h : Hp} {nx : Nat} (b0 i : Nat) (ag : Bool) (sz : Nat) (f : Nat → D) {sz0 ty0 : Nat} {cs : List D} (hl0 : lookB h b0 = some (.var true sz0 (.agg cs) ty0)) (hi0 : cs[i]? = some .nils) (hsz : n ≤ nx) :
    Wk n ⟨e,h,nx⟩ ⟨e,(nx, .row false 0 ag sz 0 f) :: up h b0 (.var true sz0 (.agg (cs.set i (.sl nx 0 0 0))) ty0),nx + 1⟩:=by
  intro B φ S a w hnB hr
  let φ' : Ph:=fun b => if b = nx then none else φ b
  have hne : ∀ b x,lookB h b = some x → b ≠ nx:=fun b x hl e => by have:=hr.nx b x hl;simp only at this;omega
  have hu:=lookB_up b0 (.var true sz0 (.agg (cs.set i (.sl nx 0 0 0))) ty0) h
  have hs0 : (lookB h b0).isSome = true:=by rw [hl0];rfl
  have hnew : ∀ b,b ≠ nx → lookB ((nx,Blk.row false 0 ag sz 0 f) :: up h b0 (.var true sz0 (.agg (cs.set i (.sl nx 0 0 0))) ty0)) b = if b = b0 then some (.var true sz0 (.agg (cs.set i (.sl nx 0 0 0))) ty0) else lookB h b:=fun b hb => by
    simp only [lookB]
    rw [if_neg hb,hu]
    by_cases e : b = b0
    · rw [if_pos ⟨e,hs0⟩,if_pos e]
    · rw [if_neg (by simp [e]),if_neg e]
  have hlk' : ∀ b x,lookB ((nx,Blk.row false 0 ag sz 0 f) :: up h b0 (.var true sz0 (.agg (cs.set i (.sl nx 0 0 0))) ty0)) b = some x → (b = nx ∧ x = .row false 0 ag sz 0 f) ∨ (b ≠ nx ∧ b = b0 ∧ x = .var true sz0 (.agg (cs.set i (.sl nx 0 0 0))) ty0) ∨ (b ≠ nx ∧ b ≠ b0 ∧ lookB h b = some x):=fun b x hl => by
    by_cases e : b = nx
    · subst e;simp only [lookB,if_true] at hl;cases hl;exact .inl ⟨rfl,rfl⟩
    · rw [hnew b e] at hl
      by_cases e2 : b = b0
      · rw [if_pos e2] at hl;cases hl;exact .inr (.inl ⟨e,e2,rfl⟩)
      · rw [if_neg e2] at hl;exact .inr (.inr ⟨e,e2,hl⟩)
  have hold : ∀ b x,lookB ((nx,Blk.row false 0 ag sz 0 f) :: up h b0 (.var true sz0 (.agg (cs.set i (.sl nx 0 0 0))) ty0)) b = some x → b = nx ∨ (b ≠ nx ∧ ∃ x0,lookB h b = some x0):=fun b x hl => by
    rcases hlk' b x hl with h1 | h1 | h1
    · exact .inl h1.1
    · exact .inr ⟨h1.1,_,by rw [h1.2.1];exact hl0⟩
    · exact .inr ⟨h1.1,_,h1.2.2⟩
  have hx : HpExt h φ ((nx, .row false 0 ag sz 0 f) :: up h b0 (.var true sz0 (.agg (cs.set i (.sl nx 0 0 0))) ty0)) φ':=fun b => by
    refine ⟨fun ag' sz' d ty hl => ?_,fun fz ver ag' sz' m g ty hl => ?_⟩
    · have hb:=hne _ _ hl
      refine ⟨?_,if_neg hb⟩
      rw [hnew b hb]
      by_cases e : b = b0
      · subst e
        rw [hl0] at hl
        cases hl
        exact ⟨_,if_pos rfl⟩
      · exact ⟨d,by rw [if_neg e];exact hl⟩
    · have hb:=hne _ _ hl
      have e : b ≠ b0:=fun e => by subst e;rw [hl0] at hl;cases hl
      exact ⟨fz,ver,m,g,ty,by rw [hnew b hb,if_neg e];exact hl,Nat.le_refl _,fun _ => ⟨Nat.le_refl _,if_neg hb⟩⟩
  have hk : Kept S w w:=fun _ _ => rfl
  have hz : ∀ v,RepV h φ S w .nils v → RepV ((nx, .row false 0 ag sz 0 f) :: up h b0 (.var true sz0 (.agg (cs.set i (.sl nx 0 0 0))) ty0)) φ' S w (.sl nx 0 0 0) v:=fun v hv => by
    simp only [RepV,Rep0] at hv
    simp only [RepV]
    exact ⟨false,0,ag,sz,0,f,0,by simp [lookB],Nat.le_refl _,fun _ => ⟨by omega,none,0,hv,by omega,fun _ => ⟨rfl,rfl⟩,fun c tot hc => by simp [φ'] at hc⟩⟩
  refine ⟨φ',S,fun t => RepV.mono hx hk (fun _ h => h) _ _ (hr.env t),hr.size,⟨fun b x hl => ?_,fun b b' x x' c t t' hl hl' hp hp' => ?_⟩,fun b x hl => ?_,hr.slt,fun b x c t hl hp => ?_,fun b x c t hl hp => ?_,hr.s0,hr.s1,hr.below, ?_, ?_, ?_⟩
  · rcases hlk' b x hl with ⟨rfl,rfl⟩ | ⟨hb,rfl,rfl⟩ | ⟨hb,hb0,hl⟩
    · exact ⟨fun _ => rfl,fun c tot hc => by simp [φ'] at hc⟩
    · obtain ⟨c,t,h1,h2,x,vs,e',lo,hi,h3,h4,h5,h6,h7⟩:=hr.hp.blk b _ hl0
      refine ⟨c,t,(if_neg hb).trans h1,h2,x,vs,e',lo,hi,h3,h4,h5,h6, ?_,h7.2⟩
      have h8:=h7.1
      simp only [RepV] at h8 ⊢
      obtain ⟨us,e1,h9⟩:=h8
      refine ⟨us,e1,RepVs_set i (RepVs.mono hx hk (fun _ h => h) _ _ h9) fun v hv => ?_⟩
      obtain ⟨v',hv',hr'⟩:=RepVs.get i h9 hi0
      rw [hv] at hv'
      cases hv'
      exact hz v hr'
    · exact BlkAt.move hx hk (fun _ h => h) (if_neg hb) (fun _ _ _ => rfl) (fun _ _ _ h => h) (hr.hp.blk b x hl)
  · rcases hold b x hl with rfl | ⟨hb,x0,hl⟩
    · simp [φ'] at hp
    · rcases hold b' x' hl' with rfl | ⟨hb',x0',hl'⟩
      · simp [φ'] at hp'
      · simp only [φ',if_neg hb] at hp
        simp only [φ',if_neg hb'] at hp'
        exact hr.hp.inj b b' x0 x0' c t t' hl hl' hp hp'
  · rcases hold b x hl with rfl | ⟨hb,x0,hl⟩
    · exact Nat.lt_succ_self _
    · exact Nat.lt_succ_of_lt (hr.nx b x0 hl)
  · rcases hold b x hl with rfl | ⟨hb,x0,hl⟩
    · simp [φ'] at hp
    · simp only [φ',if_neg hb] at hp;exact hr.plt b x0 c t hl hp
  · rcases hold b x hl with rfl | ⟨hb,x0,hl⟩
    · simp [φ'] at hp
    · simp only [φ',if_neg hb] at hp;exact hr.old b x0 c t hl hp
  · refine hr.ext.trans hx fun b hb => ?_
    obtain ⟨x,hl⟩:=Option.isSome_iff_exists.1 hb
    rcases hold b x hl with rfl | ⟨hb,x0,hl⟩
    · right
      cases h0 : lookB B.h0 b with
      | none => rfl
      | some y => have h1:=mx_lt h0;have h2:=hr.nx0;simp only at h2;omega
    · left;rw [hl];rfl
  · exact Nat.le_succ_of_le hr.nx0
  · refine hr.def0.move fun D h1 h2 h3 h4 => ⟨rfl,h3,fun b x c t hl hp => ?_⟩
    rcases hold b x hl with rfl | ⟨hb,x0,hl⟩
    · simp [φ'] at hp
    · simp only [φ',if_neg hb] at hp;exact h4 b x0 c t hl hp
theorem AL.ofW {α : Type} (P : α → Prop) (μ : α → Nat) (L : α → List (Nat × D)) (H : α → Hp) (x : α) {F : (Exit → St → Prop) → St → Prop} {Q : Exit → St → Prop} {e e' : Nat → D} {h h' : Hp} {nx nx' : Nat} (hw : Wk nx ⟨e,h,nx⟩ ⟨e',h',nx'⟩) (hle : nx ≤ nx') (hx : P x)
    (hL : EnvLe (kp (H x)) h' e' (L x)) (hH : HLe (kp (H x)) h' (H x)) (hm : ∀ x,P x → mx (H x) ≤ nx') (round : ∀ x,P x → F (thn (Nxt P μ L H x) Q) ⟨look .unk (L x),H x,nx'⟩) : AL F Q ⟨e,h,nx⟩:=by
  refine AL.inv (fun n s => ∃ x,P x ∧ μ x = n ∧ s = ⟨look .unk (L x),H x,nx'⟩) (μ x) _ _ (hw.trans (Wk.gen (L x) (H x) nx' hle (hm x hx) hL hH)) ⟨x,hx,rfl,rfl⟩ ?_
  rintro n s ⟨x,hx,rfl,rfl⟩
  refine ⟨Nxt P μ L H x, ?_,round x hx⟩
  rintro ⟨e',h',nx''⟩ ⟨x',h1,h2,h3,h4⟩
  exact ⟨μ x',h2,_,Wk.gen (L x') (H x') nx' hle (hm x' h1) h3 h4,x',h1,rfl,rfl⟩
end Go.Proofs.YtakaojkfipnfcaaGreatDoor.Lv
