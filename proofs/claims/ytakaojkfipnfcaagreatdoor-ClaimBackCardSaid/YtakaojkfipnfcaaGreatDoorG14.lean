/- The program's numbers: Div. The document's numbers: SubNat, Shl, Bits. The program's numbers: Gcd. The document's numbers: DivNat, Gcd, Bit, Zeros. The program's numbers: Mul. The program's whole numbers: Cmp. -/
import Derived.Test.YtakaojkfipnfcaaGreatDoorG13
import Derived.Test.YtakaojkfipnfcaaGreatDoorG11
import Derived.Test.YtakaojkfipnfcaaGreatDoorG12
set_option linter.unusedVariables false
set_option linter.unusedSimpArgs false
set_option maxRecDepth 100000
set_option maxHeartbeats 4000000
namespace Go.Proofs.YtakaojkfipnfcaaGreatDoor.Lv
open Go Go.RowKit
theorem callN {E : Ctx} {g : FuncId} {ds args : List D} {K : St → Prop} {s : St} {dst : Option Nat} {d : D} {h' : Hp} (hC : CG E g args [] d h') (hl : LesV (imps nof s.h ds) args)
    (hK : K ((aft s [] (if flat d && h'.isEmpty then [] else fsOf s [] ds) h').put dst (exD (ex [] s.nx) d))) : CallX E g ds K s dst:=
  .inl ⟨[],d,h', .inr rfl,rfl,CG.args hC hl,hK⟩
theorem callNl {E : Ctx} {gs : Nat → Bool} {g : FuncId} {ds args : List D} {K : St → Prop} {s : St} {dst : Option Nat} {d : D} {h' : Hp} (hC : CG E g args [] d h') (hl : LesV (imps nof s.h ds) args)
    (hK : K ((aft s [] (if flat d && h'.isEmpty then [] else fsOf s [] ds) h').put dst (exD (ex [] s.nx) d))) : CallX (E.lim gs) g ds K s dst:=callN (E:=E.lim gs) hC hl hK
theorem nb_nbit {n k : Nat} : nb n ≤ k ↔ nbit n ≤ 32 * k:=by
  rw [nb_lt,nbit_lt,Nat.pow_mul]
theorem nb_mono {a b : Nat} (h : a ≤ b) : nb a ≤ nb b:=nb_lt.2 (Nat.lt_of_le_of_lt h (nb_lt.1 (Nat.le_refl _)))
theorem nbit_shl {n : Nat} (h : n ≠ 0) (s : Nat) : nbit (n * 2 ^ s) = nbit n + s:=by
  have hp:=Nat.two_pow_pos s
  rw [nbit_div (n * 2 ^ s) s (by have : 1 * 2 ^ s ≤ n * 2 ^ s:=Nat.mul_le_mul_right _ (by omega);omega),Nat.mul_div_cancel _ hp]
theorem div_norm {a b k s : Nat} (hb : nb b = k + 2) (hab : b ≤ a) (hs : s = 32 - nbit ((limbs b).getD (k + 1) 0)) :
    s < 32 ∧ nb (b * 2 ^ s) = k + 2 ∧ 2147483648 ≤ (limbs (b * 2 ^ s)).getD (k + 1) 0 ∧ nb (a * 2 ^ s) ≤ nb a + 1 ∧ nb a ≤ nb (a * 2 ^ s) ∧ k + 2 ≤ nb a ∧ a * 2 ^ s / 4294967296 ^ (nb a + 1 - (k + 2)) < b * 2 ^ s:=by
  obtain ⟨n1,n2⟩:=nbit_limbs (n:=b) (k:=k + 1) hb
  have ht:=(limbs_low b).getD (k + 1)
  have hnt : nbit ((limbs b).getD (k + 1) 0) ≤ 32:=nbit_lt.2 ht
  have hpt:=nbit_pos (Nat.pos_of_ne_zero n2)
  have hb0 : b ≠ 0:=fun e => by subst e;unfold nb at hb;rw [limbs_zero] at hb;simp at hb
  have ha0 : a ≠ 0:=by omega
  have e1:=nbit_shl hb0 s
  have e2:=nbit_shl ha0 s
  have hnb : nb (b * 2 ^ s) = k + 2:=by
    have h1:=nb_nbit (n:=b * 2 ^ s) (k:=k + 2)
    have h2:=nb_nbit (n:=b * 2 ^ s) (k:=k + 1)
    omega
  obtain ⟨m1,m2⟩:=nbit_limbs (n:=b * 2 ^ s) (k:=k + 1) hnb
  have hbig : 2147483648 ≤ (limbs (b * 2 ^ s)).getD (k + 1) 0:=by
    rcases Nat.lt_or_ge ((limbs (b * 2 ^ s)).getD (k + 1) 0) 2147483648 with h | h
    · have:=(nbit_lt (n:=(limbs (b * 2 ^ s)).getD (k + 1) 0) (k:=31)).2 h
      omega
    · exact h
  have hla:=nb_mono hab
  have hs32 : s < 32:=by omega
  refine ⟨hs32,hnb,hbig, ?_, ?_,by omega, ?_⟩
  · have h1:=nb_nbit (n:=a * 2 ^ s) (k:=nb a + 1)
    have h2:=(nb_nbit (n:=a) (k:=nb a)).1 (Nat.le_refl _)
    omega
  · exact nb_mono (Nat.le_mul_of_pos_right a (Nat.two_pow_pos s))
  · rw [Nat.div_lt_iff_lt_mul (Nat.pow_pos (by omega))]
    have h1 : a < 4294967296 ^ nb a:=nb_lt.1 (Nat.le_refl _)
    have h2 : 4294967296 ^ (k + 1) ≤ b:=by
      rcases Nat.lt_or_ge b (4294967296 ^ (k + 1)) with h | h
      · have:=nb_lt.2 h;omega
      · exact h
    have h3 : (4294967296 : Nat) ^ nb a = 4294967296 ^ (k + 1) * 4294967296 ^ (nb a + 1 - (k + 2)):=by
      rw [← Nat.pow_add];congr 1;omega
    calc a * 2 ^ s < 4294967296 ^ nb a * 2 ^ s:=Nat.mul_lt_mul_of_pos_right h1 (Nat.two_pow_pos s)
      _ = 4294967296 ^ (k + 1) * 4294967296 ^ (nb a + 1 - (k + 2)) * 2 ^ s:=by rw [h3]
      _ ≤ b * 4294967296 ^ (nb a + 1 - (k + 2)) * 2 ^ s:=Nat.mul_le_mul_right _ (Nat.mul_le_mul_right _ h2)
      _ = b * 2 ^ s * 4294967296 ^ (nb a + 1 - (k + 2)):=Nat.mul_right_comm _ _ _
theorem padL_app {n N j : Nat} (h : nb n ≤ N) : padL n N ++ List.replicate j 0 = padL n (N + j):=by
  rw [padL,padL,List.append_assoc,List.replicate_append_replicate,show N - nb n + j = N + j - nb n by omega]
theorem app_zz {n N j : Nat} (h : nb n ≤ N) (hj : j < nb n + 2) : (if j < nb n then lR (padL n N) j else [D.int .u32 0,D.int .u32 0].getD (j - nb n) .unk) = lR (padL n (nb n + 2)) j:=by
  by_cases hlt : j < nb n
  · rw [if_pos hlt,lR,lR,padL_getD hlt,padL_getD hlt]
  · rw [if_neg hlt]
    have : (padL n (nb n + 2)).getD j 0 = 0:=by
      rw [padL,List.getD_eq_getElem?_getD,List.getElem?_append_right (by unfold nb at hlt;omega),List.getElem?_replicate]
      split <;> rfl
    rw [lR,this]
    rcases (show j = nb n ∨ j = nb n + 1 by omega) with h | h
    · rw [h,Nat.sub_self];rfl
    · rw [h,show nb n + 1 - nb n = 1 by omega];rfl
theorem div_mod_of {a b Q R : Nat} (hb : 0 < b) (h : a = b * Q + R) (hR : R < b) : a / b = Q ∧ a % b = R:=by
  subst h
  rw [Nat.mul_add_div hb,Nat.mul_add_mod,Nat.div_eq_of_lt hR,Nat.mod_eq_of_lt hR]
  exact ⟨rfl,rfl⟩
theorem nat_Div {a b : Nat} (ha : nb a < 536870000) (hb : nb b < 536870000) (hb0 : b ≠ 0) : C E 172 [natD a,natD b] (.tup [natD (a / b),natD (a % b), .bool true]):=by
  refine CG_intro Tryz.func172 rfl (by kernel_rfl) rfl (by kernel_rfl) (by kernel_rfl) rfl ?_
  have hlb:=limbs_ne hb0
  have ha' : (limbs a).length < 536870000:=ha
  have hb' : (limbs b).length < 536870000:=hb
  simp (disch:=first|exact dd|fail) only [go_sem,seval,natD_u32s,u32s]
  refine callC (nat_Cmp (a:=a) (b:=b) (by omega) (by omega)) ?_ rfl ?_
  · simp (disch:=first|exact dd|fail) only [go_sem,seval,natD_u32s,u32s]
    try exact LesV.refl _
  by_cases hab : a < b
  · have hs : sgI (a : Int) (b : Int) = -1:=sgI_lt (by omega)
    rw [Nat.div_eq_of_lt hab,Nat.mod_eq_of_lt hab]
    have hn : LeV (.agg [.nils]) (natD 0):=by rw [natD,limbs_zero];exact LeV.agg (LesV.cons LeV.nils LesV.nil)
    simp (disch:=first|exact dd|fail) only [go_sem,seval,hs]
    refine AReg_anyL 5 [0,1,2,3,4] rfl rfl (by decide +kernel) ?_
    refine AAny_free 0 [1,2,3,4] (by decide +kernel) rfl ?_
    refine AI_at _ rfl ?_
    simp (disch:=first|exact dd|fail) only [go_sem,seval]
    refine AAny_step [(1,[2,3,4]),(2,[1,3,4])] (by decide +kernel) rfl ?_
    refine forall_more ?_ ?_
    · refine AI_at _ rfl ?_
      simp (disch:=first|exact dd|fail) only [go_sem,seval]
      refine AAny_free 2 [3,4] (by decide +kernel) rfl ?_
      refine AI_at _ rfl ?_
      simp (disch:=first|exact dd|fail) only [go_sem,seval]
      refine AAny_free 3 [4] (by decide +kernel) rfl ?_
      refine AI_at _ rfl ?_
      simp (disch:=first|exact dd|fail) only [go_sem,seval]
      refine AAny_free 4 [] (by decide +kernel) rfl ?_
      refine AI_at _ rfl ?_
      simp (disch:=first|exact dd|fail) only [go_sem,seval]
      refine AAny_end ?_
      simp (disch:=first|exact dd|fail) only [go_sem,seval]
      exact LeV.tup (LesV.cons hn (LesV.refl _))
    refine forall_one ?_
    refine AI_at _ rfl ?_
    simp (disch:=first|exact dd|fail) only [go_sem,seval]
    refine AAny_free 1 [3,4] (by decide +kernel) rfl ?_
    refine AI_at _ rfl ?_
    simp (disch:=first|exact dd|fail) only [go_sem,seval]
    refine AAny_free 3 [4] (by decide +kernel) rfl ?_
    refine AI_at _ rfl ?_
    simp (disch:=first|exact dd|fail) only [go_sem,seval]
    refine AAny_free 4 [] (by decide +kernel) rfl ?_
    refine AI_at _ rfl ?_
    simp (disch:=first|exact dd|fail) only [go_sem,seval]
    refine AAny_end ?_
    simp (disch:=first|exact dd|fail) only [go_sem,seval]
    exact LeV.tup (LesV.cons hn (LesV.refl _))
  · have hs : 0 ≤ sgI (a : Int) (b : Int):=by
      rcases Nat.lt_or_ge b a with h | h
      · rw [sgI_gt (by omega)];decide
      · rw [show a = b by omega,sgI_eq];decide
    by_cases h1 : (limbs b).length = 1
    · have hl0 : (limbs b).getD 0 0 = b:=by
        have:=val_limbs b
        obtain ⟨x,hx⟩:=List.length_eq_one_iff.1 h1
        rw [hx] at this ⊢
        simpa [val] using this
      have hb32 : b < 4294967296:=by rw [← hl0];exact (limbs_low b).getD 0
      have ha0 : limbs a ≠ []:=fun e => by
        have:=val_limbs a
        rw [e] at this
        simp [val] at this
        omega
      have hsv:=sdiv_val (q:=b) (by omega) (limbs a)
      have hsr:=sdiv_rem (q:=b) (by omega) (limbs a)
      have hsl:=sdiv_low (q:=b) (by omega) (limbs_low a)
      have hslen:=sdiv_len b (limbs a)
      rw [val_limbs] at hsv
      obtain ⟨r1,r2⟩ : a / b = val (sdiv b (limbs a)).1 ∧ a % b = (sdiv b (limbs a)).2:=by
        exact div_mod_of (by omega) hsv hsr
      rw [r1,r2]
      simp (disch:=first|exact dd|fail) only [go_sem,seval,hs,h1,u32s]
      refine callN (clone_u32 ha0 (by omega)) ?_ ?_
      · simp (disch:=first|exact dd|fail) only [go_sem,seval,u32s]
      simp (disch:=first|exact dd|fail) only [go_sem,seval,u32s,h1,hl0]
      refine callG [4] (nat_short (limbs_low a) (by omega) (q:=b) (by omega) hb32 1) rfl (by simp (disch:=first|exact dd|fail) only [go_sem,seval]) ?_ ?_ ?_
      · simp (disch:=first|exact dd|fail) only [go_sem,seval,u32s]
      · simp (disch:=first|exact dd|fail) only [go_sem,seval]
      simp (disch:=first|exact dd|fail) only [go_sem,seval,u32s,h1,hl0]
      refine callC (nat_cut hsl (by omega)) ?_ rfl ?_
      · simp (disch:=first|exact dd|fail) only [go_sem,seval,u32s]
        exact LesV_rows hslen.symm fun j hj => rfl
      simp (disch:=first|exact dd|fail) only [go_sem,seval,u32s]
      refine callC (nat_Of (v:=(sdiv b (limbs a)).2) (by omega)) ?_ rfl ?_
      · simp (disch:=first|exact dd|fail) only [go_sem,seval,u32s]
      simp (disch:=first|exact dd|fail) only [go_sem,seval,u32s]
      try exact LeV.refl _
    · obtain ⟨k,hk⟩ : ∃ k,(limbs b).length = k + 2:=⟨(limbs b).length - 2,by omega⟩
      obtain ⟨d1,d2,d3,d4,d5,d6,d7⟩:=div_norm (s:=32 - nbit ((limbs b).getD (k + 1) 0)) hk (by omega : b ≤ a) rfl
      have i1 : (((k + 2 : Nat) : Int) - 1).toNat = k + 1:=by omega
      have htop:=(limbs_low b).getD (k + 1)
      have hlz:=bits_LeadingZeros32 htop
      generalize 32 - nbit ((limbs b).getD (k + 1) 0) = s at *
      have hsn:=shN_id (n:=s) (by omega)
      have hSa:=nat_Shl_own (a:=a) (by omega) (s : Int)
      have hSb:=nat_Shl (a:=b) (by omega) (s : Int)
      rw [hsn] at hSa hSb
      rw [show s / 32 = 0 by omega] at hSa
      generalize hA : a * 2 ^ s = A at *
      generalize hB : b * 2 ^ s = Bb at *
      have hla : (limbs a).length = nb a:=rfl
      have hlB : (limbs Bb).length = k + 2:=d2
      simp (disch:=first|exact dd|fail) only [go_sem,seval,hs,hk,u32s,i1]
      refine callC hlz ?_ rfl ?_
      · simp (disch:=first|exact dd|fail) only [go_sem,seval,u32s]
      simp (disch:=first|exact dd|fail) only [go_sem,seval,hs,hk,u32s,i1]
      have hl1 : ((nb a : Nat) : Int) + 1 = ((nb a + 1 : Nat) : Int):=by omega
      have hl2 : ((nb a + 1 : Nat) : Int).toNat = nb a + 1:=by omega
      have hsp:=Nat.two_pow_pos s
      have hAq : A / Bb = a / b:=by rw [← hA,← hB,Nat.mul_div_mul_right _ _ hsp]
      have hAr : A % Bb = a % b * 2 ^ s:=by rw [← hA,← hB,Nat.mul_mod_mul_right]
      have hRs : A % Bb / 2 ^ s = a % b:=by rw [hAr,Nat.mul_div_cancel _ hsp]
      have hBp : 0 < Bb:=by rw [← hB];exact Nat.mul_pos (by omega) hsp
      obtain ⟨M,hM⟩ : ∃ M,M = nb a + 1 - (k + 2):=⟨_,rfl⟩
      have hM2 : M + (k + 2) = nb a + 1:=by omega
      rw [← hM] at d7
      have hq1 : nb (a / b) ≤ M:=by
        rw [← hAq]
        refine nb_lt.2 ?_
        rw [Nat.div_lt_iff_lt_mul (Nat.pow_pos (by omega))] at d7
        rw [Nat.div_lt_iff_lt_mul hBp,Nat.mul_comm]
        exact d7
      have hr1 : nb (A % Bb) ≤ nb a + 1:=Nat.le_trans (nb_mono (Nat.mod_le _ _)) d4
      have hlong:=nat_long (u:=padL A (nb a + 1)) (v:=limbs Bb) (t:=List.replicate (nb A + 1 - nb a) 0) (M:=M) (N:=nb A + 2) (k:=k) padL_low (limbs_low Bb) hlB (by rw [padL_len d4,hlB];exact hM2) d3
        (by rw [val_drop padL_low (by rw [padL_len d4];omega),padL_val,val_limbs];exact d7) (by rw [List.length_replicate];omega) (by omega) 1
        (fun j => if j < nb A then lR (padL A (nb a + 1)) j else [D.int .u32 0,D.int .u32 0].getD (j - nb A) .unk)
        (fun j hj => by rw [padL_app d4,show nb a + 1 + (nb A + 1 - nb a) = nb A + 2 by omega];exact app_zz d4 hj)
      rw [hM2,padL_val,val_limbs,hAq] at hlong
      have hrow : ∀ j,j < nb a + 1 → lR (padL (A % Bb) (nb a + 1) ++ List.replicate (nb A + 1 - nb a) 0) j = lR (padL (A % Bb) (nb a + 1)) j:=fun j hj => by
        rw [lR,lR,List.getD_eq_getElem?_getD,List.getElem?_append_left (by rw [padL_len hr1];exact hj),List.getD_eq_getElem?_getD]
      have hRb : nb (A % Bb) < 536870912:=by omega
      rw [hAr] at hRs hlong hrow hr1 hRb
      generalize a % b * 2 ^ s = R at *
      clear hAr hAq hBp d7 d3
      refine AReg_anyL 17 [0,1,2,3,4,5,6,7,8,9,10,11,12,13,14,15,16] rfl rfl (by decide +kernel) ?_
      refine AAny_free 0 [1,2,3,4,5,6,7,8,9,10,11,12,13,14,15,16] (by decide +kernel) rfl ?_
      refine AI_at _ rfl ?_
      simp (disch:=first|exact dd|fail) only [go_sem,seval,u32s,hl1,hl2,hla,hk]
      refine AAny_free 1 [2,3,4,5,6,7,8,9,10,11,12,13,14,15,16] (by decide +kernel) rfl ?_
      refine AI_at _ rfl ?_
      simp (disch:=first|exact dd|fail) only [go_sem,seval,u32s,hl1,hl2,hla,hk]
      refine AAny_free 12 [2,3,4,5,6,7,8,9,10,11,13,14,15,16] (by decide +kernel) rfl ?_
      refine AI_at _ rfl ?_
      simp (disch:=first|exact dd|fail) only [go_sem,seval,u32s,hl1,hl2,hla,hk]
      refine AAny_stab 6 [2,3,4,5,7,8,9,10,11,13,14,15,16] (by decide +kernel) rfl (by simp (disch:=first|exact dd|fail) only [go_sem,seval,u32s,hl1,hl2,hla,hk,stab,isVarB,blks,blkss,Op.operands,Call.operands,List.toList_toArray,Array.toList_append,List.all_cons,List.all_nil,Option.isNone_none]) ?_
      refine AI_at _ rfl ?_
      simp (disch:=first|exact dd|fail) only [go_sem,seval,u32s,hl1,hl2,hla,hk]
      refine AAny_stab 7 [2,3,4,5,8,9,10,11,13,14,15,16] (by decide +kernel) rfl (by simp (disch:=first|exact dd|fail) only [go_sem,seval,u32s,hl1,hl2,hla,hk,stab,isVarB,blks,blkss,Op.operands,Call.operands,List.toList_toArray,Array.toList_append,List.all_cons,List.all_nil,Option.isNone_none]) ?_
      refine AI_at _ rfl ?_
      simp (disch:=first|exact dd|fail) only [go_sem,seval,u32s,hl1,hl2,hla,hk]
      refine AAny_stab 8 [2,3,4,5,9,10,11,13,14,15,16] (by decide +kernel) rfl (by simp (disch:=first|exact dd|fail) only [go_sem,seval,u32s,hl1,hl2,hla,hk,stab,isVarB,blks,blkss,Op.operands,Call.operands,List.toList_toArray,Array.toList_append,List.all_cons,List.all_nil,Option.isNone_none]) ?_
      refine AI_at _ rfl ?_
      simp (disch:=first|exact dd|fail) only [go_sem,seval,u32s,hl1,hl2,hla,hk]
      refine AAny_free 9 [2,3,4,5,10,11,13,14,15,16] (by decide +kernel) rfl ?_
      refine AI_at _ rfl ?_
      simp (disch:=first|exact dd|fail) only [go_sem,seval,u32s,hl1,hl2,hla,hk]
      refine AAny_stab 11 [2,3,4,5,10,13,14,15,16] (by decide +kernel) rfl (by simp (disch:=first|exact dd|fail) only [go_sem,seval,u32s,hl1,hl2,hla,hk,stab,isVarB,blks,blkss,Op.operands,Call.operands,List.toList_toArray,Array.toList_append,List.all_cons,List.all_nil,Option.isNone_none]) ?_
      refine AI_at _ rfl ?_
      simp (disch:=first|exact dd|fail) only [go_sem,seval,u32s,hl1,hl2,hla,hk]
      refine AAny_step [(2,[3,4,5,10,13,14,15,16]),(4,[2,3,5,10,13,14,15,16])] (by decide +kernel) rfl ?_
      refine forall_more ?_ ?_
      · refine AI_at _ rfl ?_
        simp (disch:=first|exact dd|fail) only [go_sem,seval,u32s,hl1,hl2,hla,hk]
        refine callNl hSa ?_ ?_
        · simp (disch:=first|exact dd|fail) only [go_sem,seval,u32s,hl1,hl2,hla,hk,natD]
        simp (disch:=first|exact dd|fail) only [go_sem,seval,u32s,hl1,hl2,hla,hk]
        refine AAny_free 3 [4,5,10,13,14,15,16] (by decide +kernel) rfl ?_
        refine AI_at _ rfl ?_
        simp (disch:=first|exact dd|fail) only [go_sem,seval,u32s,hl1,hl2,hla,hk]
        refine AAny_free 4 [5,10,13,14,15,16] (by decide +kernel) rfl ?_
        refine AI_at _ rfl ?_
        simp (disch:=first|exact dd|fail) only [go_sem,seval,u32s,hl1,hl2,hla,hk]
        refine AAny_free 5 [10,13,14,15,16] (by decide +kernel) rfl ?_
        refine AI_at _ rfl ?_
        simp (disch:=first|exact dd|fail) only [go_sem,seval,u32s,hl1,hl2,hla,hk]
        refine ⟨.inl trivial, .inr trivial,by omega,by omega, ?_⟩
        refine AAny_free 10 [13,14,15,16] (by decide +kernel) rfl ?_
        refine AI_at _ rfl ?_
        simp (disch:=first|exact dd|fail) only [go_sem,seval,u32s,hl1,hl2,hla,hk]
        refine AAny_free 13 [14,15,16] (by decide +kernel) rfl ?_
        refine AI_at _ rfl ?_
        simp (disch:=first|exact dd|fail) only [go_sem,seval,u32s,hl1,hl2,hla,hk]
        refine callCl hSb ?_ rfl ?_
        · simp (disch:=first|exact dd|fail) only [go_sem,seval,u32s,hl1,hl2,hla,hk,natD]
        simp (disch:=first|exact dd|fail) only [go_sem,seval,u32s,hl1,hl2,hla,hk]
        refine AAny_free 14 [15,16] (by decide +kernel) rfl ?_
        refine AI_at _ rfl ?_
        simp (disch:=first|exact dd|fail) only [go_sem,seval,u32s,hl1,hl2,hla,hk]
        refine AAny_free 15 [16] (by decide +kernel) rfl ?_
        refine AI_at _ rfl ?_
        simp (disch:=first|exact dd|fail) only [go_sem,seval,u32s,hl1,hl2,hla,hk]
        refine AAny_free 16 [] (by decide +kernel) rfl ?_
        refine AI_at _ rfl ?_
        simp (disch:=first|exact dd|fail) only [go_sem,seval,u32s,hl1,hl2,hla,hk]
        refine AAny_end ?_
        simp (disch:=first|exact dd|fail) only [go_sem,seval,u32s,hl1,hl2,hla,hk]
        first | (refine callG [6] hlong rfl ?_ ?_ ?_ ?_;focus (simp (disch:=first|exact dd|fail) only [go_sem,seval];done)) | (refine callG [7] hlong rfl ?_ ?_ ?_ ?_;focus (simp (disch:=first|exact dd|fail) only [go_sem,seval];done))
        · simp (disch:=first|exact dd|fail) only [go_sem,seval,u32s,hl1,hl2,hla,hk,natD,hlB]
        · simp (disch:=first|exact dd|fail) only [go_sem,seval]
        simp (disch:=first|exact dd|fail) only [go_sem,seval,u32s,hl1,hl2,hla,hk,hlB]
        refine callC (nat_cut (l:=padL (a / b) M) padL_low (by rw [padL_len hq1];omega)) ?_ rfl ?_
        · simp (disch:=first|exact dd|fail) only [go_sem,seval,u32s,hl1,hl2,hla,hk]
          exact LesV_rows (padL_len hq1).symm fun j hj => rfl
        rw [padL_val]
        simp (disch:=first|exact dd|fail) only [go_sem,seval,u32s,hl1,hl2,hla,hk]
        refine callC (nat_cut (l:=padL R (nb a + 1)) padL_low (by rw [padL_len hr1];omega)) ?_ rfl ?_
        · simp (disch:=first|exact dd|fail) only [go_sem,seval,u32s,hl1,hl2,hla,hk]
          exact LesV_rows (padL_len hr1).symm fun j hj => hrow j hj
        rw [padL_val]
        simp (disch:=first|exact dd|fail) only [go_sem,seval,u32s,hl1,hl2,hla,hk]
        refine callC (nat_Shr (a:=R) (by omega) (s : Int)) ?_ rfl ?_
        · simp (disch:=first|exact dd|fail) only [go_sem,seval,u32s,hl1,hl2,hla,hk,natD]
        rw [hsn,hRs]
        simp (disch:=first|exact dd|fail) only [go_sem,seval,u32s,hl1,hl2,hla,hk]
        exact LeV.refl _
      refine forall_one ?_
      refine AI_at _ rfl ?_
      simp (disch:=first|exact dd|fail) only [go_sem,seval,u32s,hl1,hl2,hla,hk]
      refine AAny_free 2 [3,5,10,13,14,15,16] (by decide +kernel) rfl ?_
      refine AI_at _ rfl ?_
      simp (disch:=first|exact dd|fail) only [go_sem,seval,u32s,hl1,hl2,hla,hk]
      refine callNl hSa ?_ ?_
      · simp (disch:=first|exact dd|fail) only [go_sem,seval,u32s,hl1,hl2,hla,hk,natD]
      simp (disch:=first|exact dd|fail) only [go_sem,seval,u32s,hl1,hl2,hla,hk]
      refine AAny_free 3 [5,10,13,14,15,16] (by decide +kernel) rfl ?_
      refine AI_at _ rfl ?_
      simp (disch:=first|exact dd|fail) only [go_sem,seval,u32s,hl1,hl2,hla,hk]
      refine AAny_free 5 [10,13,14,15,16] (by decide +kernel) rfl ?_
      refine AI_at _ rfl ?_
      simp (disch:=first|exact dd|fail) only [go_sem,seval,u32s,hl1,hl2,hla,hk]
      refine ⟨.inl trivial, .inr trivial,by omega,by omega, ?_⟩
      refine AAny_free 10 [13,14,15,16] (by decide +kernel) rfl ?_
      refine AI_at _ rfl ?_
      simp (disch:=first|exact dd|fail) only [go_sem,seval,u32s,hl1,hl2,hla,hk]
      refine AAny_free 13 [14,15,16] (by decide +kernel) rfl ?_
      refine AI_at _ rfl ?_
      simp (disch:=first|exact dd|fail) only [go_sem,seval,u32s,hl1,hl2,hla,hk]
      refine callCl hSb ?_ rfl ?_
      · simp (disch:=first|exact dd|fail) only [go_sem,seval,u32s,hl1,hl2,hla,hk,natD]
      simp (disch:=first|exact dd|fail) only [go_sem,seval,u32s,hl1,hl2,hla,hk]
      refine AAny_free 14 [15,16] (by decide +kernel) rfl ?_
      refine AI_at _ rfl ?_
      simp (disch:=first|exact dd|fail) only [go_sem,seval,u32s,hl1,hl2,hla,hk]
      refine AAny_free 15 [16] (by decide +kernel) rfl ?_
      refine AI_at _ rfl ?_
      simp (disch:=first|exact dd|fail) only [go_sem,seval,u32s,hl1,hl2,hla,hk]
      refine AAny_free 16 [] (by decide +kernel) rfl ?_
      refine AI_at _ rfl ?_
      simp (disch:=first|exact dd|fail) only [go_sem,seval,u32s,hl1,hl2,hla,hk]
      refine AAny_end ?_
      simp (disch:=first|exact dd|fail) only [go_sem,seval,u32s,hl1,hl2,hla,hk]
      first | (refine callG [6] hlong rfl ?_ ?_ ?_ ?_;focus (simp (disch:=first|exact dd|fail) only [go_sem,seval];done)) | (refine callG [7] hlong rfl ?_ ?_ ?_ ?_;focus (simp (disch:=first|exact dd|fail) only [go_sem,seval];done))
      · simp (disch:=first|exact dd|fail) only [go_sem,seval,u32s,hl1,hl2,hla,hk,natD,hlB]
      · simp (disch:=first|exact dd|fail) only [go_sem,seval]
      simp (disch:=first|exact dd|fail) only [go_sem,seval,u32s,hl1,hl2,hla,hk,hlB]
      refine callC (nat_cut (l:=padL (a / b) M) padL_low (by rw [padL_len hq1];omega)) ?_ rfl ?_
      · simp (disch:=first|exact dd|fail) only [go_sem,seval,u32s,hl1,hl2,hla,hk]
        exact LesV_rows (padL_len hq1).symm fun j hj => rfl
      rw [padL_val]
      simp (disch:=first|exact dd|fail) only [go_sem,seval,u32s,hl1,hl2,hla,hk]
      refine callC (nat_cut (l:=padL R (nb a + 1)) padL_low (by rw [padL_len hr1];omega)) ?_ rfl ?_
      · simp (disch:=first|exact dd|fail) only [go_sem,seval,u32s,hl1,hl2,hla,hk]
        exact LesV_rows (padL_len hr1).symm fun j hj => hrow j hj
      rw [padL_val]
      simp (disch:=first|exact dd|fail) only [go_sem,seval,u32s,hl1,hl2,hla,hk]
      refine callC (nat_Shr (a:=R) (by omega) (s : Int)) ?_ rfl ?_
      · simp (disch:=first|exact dd|fail) only [go_sem,seval,u32s,hl1,hl2,hla,hk,natD]
      rw [hsn,hRs]
      simp (disch:=first|exact dd|fail) only [go_sem,seval,u32s,hl1,hl2,hla,hk]
      exact LeV.refl _
theorem ref_SubNat {a b : Nat} (ha : nb a < 536870912) (hb : nb b < 536870912) (hab : b ≤ a) : C E 183 [nD a,nD b] (nD (a - b)):=by
  refine CG_intro Tryz.func183 rfl (by kernel_rfl) rfl (by kernel_rfl) (by kernel_rfl) rfl ?_
  unfold nb at ha hb
  have va:=val_limbs a
  have vb:=val_limbs b
  have la:=limbs_low a
  have lb:=limbs_low b
  have hle : (limbs b).length ≤ (limbs a).length:=nb_mono hab
  simp only [nD]
  generalize limbs a = l at *
  generalize limbs b = m at *
  subst va vb
  simp (disch:=first|exact dd|fail) only [go_sem,seval,u32s]
  refine ⟨by omega,by omega,by omega, ?_⟩
  refine AL.of (DifP l m) (fun s => l.length - s.1) (fun s => [(0,u32s l),(1,u32s m),(5, .sl 0 0 0 l.length),(6, .int .u64 s.2.1),(7, .int .i64 s.1)]) (fun s => [(0, .row false 0 false 1 l.length (lR s.2.2))]) (0,0,List.replicate l.length 0) ⟨by simp,by simp,by simp,lows_rep _,by simp [val]⟩ ?_ ?_ ?_ ?_
  · simp (disch:=first|exact dd|fail) only [go_sem,seval,u32s]
  · simp (disch:=first|exact dd|fail) only [go_sem,seval,u32s]
    try exact fun i hi => Le.of_eq (by unfold lR;rw [List.getD_eq_getElem?_getD,List.getElem?_replicate,if_pos hi];rfl)
  · intro x _;simp (disch:=first|exact dd|fail) only [go_sem,seval]
  rintro ⟨i,c,w⟩ hP
  have hn:=hP.next la lb
  have hf:=hP
  obtain ⟨h1,h2,h3,h4,h5⟩:=hP
  simp only at h1 h2 h3 h4 h5
  have g1:=la.getD i
  have g2:=lb.getD i
  by_cases hi : i = l.length
  · subst hi
    obtain ⟨q1,q2⟩:=hf.fin hle hab
    have hc:=ref_trim q1 (by omega)
    rw [q2] at hc
    clear h5 hf hn h4
    simp (disch:=first|exact dd|fail) only [go_sem,seval,u32s]
    refine callC hc ?_ rfl ?_
    · simp (disch:=first|exact dd|fail) only [go_sem,seval,u32s]
      first | exact LesV_rows (by omega) fun j hj => rfl | (rw [h3];exact LesV_rows rfl fun j hj => rfl)
    simp (disch:=first|exact dd|fail) only [go_sem,seval]
    try exact LeV.refl _
  have hi' : i < l.length:=by omega
  have hn':=hn hi'
  clear hn hf h5 h4 h1
  have key : ∀ y : Nat,y < 4294967296 → (l.getD i 0 < y + c → IntKind.u32.wrap (((l.getD i 0 : Nat) : Int) + 4294967296 - ((c + y : Nat) : Int)) = (((4294967296 + l.getD i 0 - c - y) % 4294967296 : Nat) : Int)) ∧ (¬ l.getD i 0 < y + c → IntKind.u32.wrap (((l.getD i 0 : Nat) : Int) - ((c + y : Nat) : Int)) = (((4294967296 + l.getD i 0 - c - y) % 4294967296 : Nat) : Int)):=fun y hy =>
    ⟨fun h => by rw [wrap_u32'];omega,fun h => by rw [wrap_u32'];omega⟩
  by_cases hj : i < m.length
  · obtain ⟨k1,k2⟩:=key _ g2
    have e3 : (c : Int) + ((m.getD i 0 : Nat) : Int) = ((c + m.getD i 0 : Nat) : Int):=by omega
    by_cases hlt : l.getD i 0 < m.getD i 0 + c
    · have k1:=k1 hlt
      rw [if_pos hlt] at hn'
      simp (disch:=first|exact dd|fail) only [go_sem,seval,u32s,lR,e3,k1]
      refine ⟨_,hn',by show l.length - (i + 1) < l.length - i;omega, ?_, ?_⟩
      · simp (disch:=first|exact dd|fail) only [go_sem,seval,u32s]
        try exact LeV_int (by omega)
      · simp (disch:=first|exact dd|fail) only [go_sem,seval,u32s]
        exact fun j hj => Le.of_eq (lR_set' (w:=w) (by omega))
    · have k2:=k2 hlt
      rw [if_neg hlt] at hn'
      simp (disch:=first|exact dd|fail) only [go_sem,seval,u32s,lR,e3,k2]
      refine ⟨_,hn',by show l.length - (i + 1) < l.length - i;omega, ?_, ?_⟩
      · simp (disch:=first|exact dd|fail) only [go_sem,seval,u32s]
        try exact LeV_int (by omega)
      · simp (disch:=first|exact dd|fail) only [go_sem,seval,u32s]
        exact fun j hj => Le.of_eq (lR_set' (w:=w) (by omega))
  · have hy0:=getD_out' (l:=m) (i:=i) (by omega)
    rw [hy0] at hn'
    obtain ⟨k1,k2⟩:=key 0 (by omega)
    rw [Nat.add_zero] at k1 k2
    by_cases hlt : l.getD i 0 < 0 + c
    · have k1:=k1 hlt
      rw [if_pos hlt] at hn'
      simp (disch:=first|exact dd|fail) only [go_sem,seval,u32s,lR,k1]
      refine ⟨_,hn',by show l.length - (i + 1) < l.length - i;omega, ?_, ?_⟩
      · simp (disch:=first|exact dd|fail) only [go_sem,seval,u32s]
        try exact LeV_int (by omega)
      · simp (disch:=first|exact dd|fail) only [go_sem,seval,u32s]
        exact fun j hj => Le.of_eq (lR_set' (w:=w) (by omega))
    · have k2:=k2 hlt
      rw [if_neg hlt] at hn'
      simp (disch:=first|exact dd|fail) only [go_sem,seval,u32s,lR,k2]
      refine ⟨_,hn',by show l.length - (i + 1) < l.length - i;omega, ?_, ?_⟩
      · simp (disch:=first|exact dd|fail) only [go_sem,seval,u32s]
        try exact LeV_int (by omega)
      · simp (disch:=first|exact dd|fail) only [go_sem,seval,u32s]
        exact fun j hj => Le.of_eq (lR_set' (w:=w) (by omega))
def RshI (x : List Nat) (s r i : Nat) (w : List Nat) : Prop:=ShlI x s r i w ∧ ∀ j,i + s < j → w.getD j 0 = 0
theorem rep_getD (n j : Nat) : (List.replicate n 0).getD j 0 = 0:=by
  rw [List.getD_eq_getElem?_getD,List.getElem?_replicate];split <;> rfl
theorem ref_Shl {a : Nat} (ha : nb a < 536870000) {n : Nat} (hn : n < 2147483648) : C E 182 [nD a, .int .i64 n] (nD (a * 2 ^ n)):=by
  refine CG_intro Tryz.func182 rfl (by kernel_rfl) rfl (by kernel_rfl) (by kernel_rfl) rfl ?_
  have hpow : 2 ^ n = 2 ^ (n % 32) * 4294967296 ^ (n / 32):=by
    conv => lhs;rw [← Nat.div_add_mod n 32]
    rw [Nat.pow_add,Nat.pow_mul,Nat.mul_comm]
  rw [hpow]
  clear hpow
  unfold nb at ha
  have va:=val_limbs a
  have la:=limbs_low a
  have hq:=quo32 n
  have hr:=rem32 n
  have hr32 : n % 32 < 32:=Nat.mod_lt _ (by omega)
  have hs32 : n / 32 ≤ 67108864:=by omega
  simp only [nD]
  generalize limbs a = l at *
  subst va
  generalize n / 32 = s at *
  generalize n % 32 = r at *
  have e0 : ((l.length : Int) + (s : Int) + 1).toNat = l.length + s + 1:=by omega
  simp (disch:=first|exact dd|fail) only [go_sem,seval,u32s,e0,hq,hr]
  refine ⟨by omega,by omega,by omega, ?_⟩
  refine AL.of (fun z : Nat × List Nat => RshI l s r z.1 z.2) (fun z => l.length - z.1) (fun z => [(0,u32s l),(1, .int .i64 n),(5, .sl 0 0 0 (l.length + s + 1)),(6, .int .i64 z.1)])
    (fun z => [(0, .row false 0 false 1 (l.length + s + 1) (lR z.2))]) (0,List.replicate (l.length + s + 1) 0) ⟨ShlI.zero l s r,fun j _ => rep_getD _ j⟩ ?_ ?_ ?_ ?_
  · simp (disch:=first|exact dd|fail) only [go_sem,seval,u32s,e0]
  · simp (disch:=first|exact dd|fail) only [go_sem,seval,u32s,e0]
    try exact fun i hi => Le.of_eq (by unfold lR;rw [List.getD_eq_getElem?_getD,List.getElem?_replicate,if_pos hi];rfl)
  · intro x _;simp (disch:=first|exact dd|fail) only [go_sem,seval]
  rintro ⟨i,w⟩ hI
  obtain ⟨hI,hz⟩ : RshI l s r i w:=hI
  by_cases hi : i = l.length
  · subst hi
    obtain ⟨q1,q2⟩:=hI.fin
    have hlen:=hI.2.1
    have hc:=ref_trim q1 (by omega)
    rw [q2] at hc
    clear hI
    simp (disch:=first|exact dd|fail) only [go_sem,seval,u32s]
    refine callC hc ?_ rfl ?_
    · simp (disch:=first|exact dd|fail) only [go_sem,seval,u32s]
      exact LesV_rows (by omega) fun j hj => rfl
    simp (disch:=first|exact dd|fail) only [go_sem,seval]
    try exact LeV.refl _
  · have hil : i ≤ l.length:=hI.1
    have hi' : i < l.length:=by omega
    obtain ⟨g1,g2,hnx⟩:=hI.next la hr32 hi'
    have hlen:=hI.2.1
    have hw:=hI.2.2.1.getD (i + s)
    have e1 : ((i : Int) + (s : Int)).toNat = i + s:=by omega
    have e2 : ((i : Int) + (s : Int) + 1).toNat = i + s + 1:=by omega
    obtain ⟨f1,f2,f3,f4⟩:=shl_fact (l.getD i 0) r (la.getD i) hr32
    have fb:=(shl_limb (la.getD i) hr32).1
    have hm:=bits_andM (l.getD i 0 * 2 ^ r) (by omega)
    have hmw : IntKind.u32.wrap ((l.getD i 0 * 2 ^ r % 4294967296 : Nat) : Int) = ((l.getD i 0 * 2 ^ r % 4294967296 : Nat) : Int):=wrap_u32 (by omega)
    have ho:=bits_or32 (w.getD (i + s) 0) (l.getD i 0 * 2 ^ r % 4294967296) hw (Nat.mod_lt _ (by omega))
    rw [g1] at ho
    have hz1:=hz (i + s + 1) (by omega)
    have ho2:=bits_or32 0 (l.getD i 0 * 2 ^ r / 4294967296) (by omega) (by omega)
    rw [Nat.zero_or] at ho2
    have ho3 : bits .u32 .or 0 ((l.getD i 0 * 2 ^ r / 4294967296 : Nat) : Int) = ((l.getD i 0 * 2 ^ r / 4294967296 : Nat) : Int):=ho2
    have hne : i + s + 1 ≠ i + s:=by omega
    have gx:=la.getD i
    have hzn : ∀ j,i + 1 + s < j → ((w.set (i + s) (w.getD (i + s) 0 + l.getD i 0 * 2 ^ r % 4294967296)).set (i + s + 1) (l.getD i 0 * 2 ^ r / 4294967296)).getD j 0 = 0:=fun j hj => by
      rw [List.getD_eq_getElem?_getD,List.getElem?_set_ne (by omega),List.getElem?_set_ne (by omega),← List.getD_eq_getElem?_getD]
      exact hz j (by omega)
    clear hI hz
    simp (disch:=first|exact dd|fail) only [go_sem,seval,u32s,lR,e1,e2,hq,hr,f1,hm,hmw,f3,f4,ho,hz1,ho2,ho3,hne,min64]
    refine ⟨(i + 1,_),⟨hnx,hzn⟩,by show l.length - (i + 1) < l.length - i;omega, ?_, ?_⟩
    · simp (disch:=first|exact dd|fail) only [go_sem,seval,u32s]
      try exact LeV_int (by omega)
    · simp (disch:=first|exact dd|fail) only [go_sem,seval,u32s]
      exact fun j hj => Le.of_eq (lR_set2 (w:=w) (by omega) (by omega))
theorem nbit_half {v : Nat} (h : 0 < v) : nbit v = nbit (v / 2) + 1:=by
  rcases (show v = 1 ∨ 2 ≤ v by omega) with h | h
  · subst h;rfl
  · have:=nbit_div v 1 (by omega)
    rwa [Nat.pow_one] at this
theorem ref_Bits {n : Nat} (hn : nb n < 1073741824) : C E 125 [nD n] (.int .i64 (nbit n)):=by
  refine CG_intro Tryz.func125 rfl (by kernel_rfl) rfl (by kernel_rfl) (by kernel_rfl) rfl ?_
  unfold nb at hn
  by_cases h0 : n = 0
  · subst h0
    simp (disch:=first|exact dd|fail) only [go_sem,seval,nD,u32s,limbs_zero]
    try exact LeV.refl _
  obtain ⟨k,hk⟩ : ∃ k,(limbs n).length = k + 1:=⟨(limbs n).length - 1,by have:=limbs_ne h0;omega⟩
  obtain ⟨e1,e2⟩:=nbit_limbs hk
  have e3 : (((k + 1 : Nat) : Int) - 1).toNat = k:=by omega
  have hlt:=lows_getD (limbs_low n) k
  have hnb : nbit ((limbs n).getD k 0) ≤ 32:=nbit_lt.2 hlt
  rw [e1]
  generalize hT : (limbs n).getD k 0 = t at *
  simp (disch:=first|exact dd|fail) only [go_sem,seval,nD,u32s,hk,e3,hT]
  refine AL.of (fun v : Nat => v ≤ t ∧ nbit v ≤ nbit t) (fun v => v) (fun v => [(3, .int .i64 ((32 * k + (nbit t - nbit v) : Nat) : Int)),(4, .int .u32 v)]) (fun _ => []) t ⟨Nat.le_refl _,Nat.le_refl _⟩ ?_ ?_ ?_ ?_
  · simp (disch:=first|exact dd|fail) only [go_sem,seval]
    try exact LeV_int (by omega)
  · simp (disch:=first|exact dd|fail) only [go_sem,seval]
  · intro x _;simp (disch:=first|exact dd|fail) only [go_sem,seval]
  rintro v ⟨hv,hvb⟩
  by_cases hv0 : 0 < v
  · have hh:=nbit_half hv0
    have ed : (v : Int) / 2 = ((v / 2 : Nat) : Int):=by omega
    simp (disch:=first|exact dd|fail) only [go_sem,seval,ed]
    refine ⟨v / 2,⟨by omega,by omega⟩,by show v / 2 < v;omega, ?_, ?_⟩
    · simp (disch:=first|exact dd|fail) only [go_sem,seval]
      try exact LeV_int (by omega)
    · simp (disch:=first|exact dd|fail) only [go_sem,seval]
  · obtain rfl : v = 0:=by omega
    have hz : nbit 0 = 0:=rfl
    rw [hz]
    simp (disch:=first|exact dd|fail) only [go_sem,seval]
    try exact LeV_int (by omega)
theorem gcd_step (a b : Nat) : Nat.gcd b (a % b) = Nat.gcd a b:=by
  rw [Nat.gcd_comm a b,Nat.gcd_rec b a,Nat.gcd_comm]
theorem nb_two {b : Nat} (h : nb b ≤ 2) : b < 18446744073709551616:=by
  have:=nb_lt.1 h
  rwa [show (4294967296 : Nat) ^ 2 = 18446744073709551616 from rfl] at this
theorem nat_Gcd {a b : Nat} (ha : nb a < 536870000) (hb : nb b < 536870000) : C E 135 [natD a,natD b] (natD (Nat.gcd a b)):=by
  refine CG_intro Tryz.func135 rfl (by kernel_rfl) rfl (by kernel_rfl) (by kernel_rfl) rfl ?_
  simp (disch:=first|exact dd|fail) only [go_sem,seval]
  generalize hg : Nat.gcd a b = g
  refine AL.of (fun s : Nat × Nat => nb s.1 < 536870000 ∧ nb s.2 < 536870000 ∧ Nat.gcd s.1 s.2 = g) (fun s => s.2) (fun s => [(2, .ad 0 0),(3, .ad 1 0),(4, .ad 2 0)])
    (fun s => [(2, .var true 1 (.agg [.nils])),(1, .var true 1 (natD s.2)),(0, .var true 1 (natD s.1))]) (a,b) ⟨ha,hb,hg⟩ ?_ ?_ ?_ ?_
  · simp (disch:=first|exact dd|fail) only [go_sem,seval]
  · simp (disch:=first|exact dd|fail) only [go_sem,seval]
  · intro x _;simp (disch:=first|exact dd|fail) only [go_sem,seval]
  clear hg ha hb
  rintro ⟨a,b⟩ ⟨ha,hb,hg⟩
  simp only at ha hb hg
  have hlb : (limbs b).length = nb b:=rfl
  by_cases h2 : 2 < nb b
  · have hb0 : b ≠ 0:=fun e => by subst e;unfold nb at h2;rw [limbs_zero] at h2;simp at h2
    have hlt : a % b < b:=Nat.mod_lt _ (by omega)
    have hm:=nb_mono (Nat.le_of_lt hlt)
    simp (disch:=first|exact dd|fail) only [go_sem,seval,natD,u32s,hlb]
    refine callC (nat_Div ha hb hb0) ?_ rfl ?_
    · simp (disch:=first|exact dd|fail) only [go_sem,seval,natD_u32s,u32s,hlb]
      try exact LesV.refl _
    simp (disch:=first|exact dd|fail) only [go_sem,seval,natD,u32s,hlb]
    refine AReg_anyL 4 [0,1,2,3] rfl rfl (by decide +kernel) ?_
    refine AAny_free 0 [1,2,3] (by decide +kernel) rfl ?_
    refine AI_at _ rfl ?_
    simp (disch:=first|exact dd|fail) only [go_sem,seval,natD,u32s,hlb]
    refine AAny_step [(1,[2,3]),(2,[1,3])] (by decide +kernel) rfl ?_
    refine forall_more ?_ ?_
    · refine AI_at _ rfl ?_
      simp (disch:=first|exact dd|fail) only [go_sem,seval,natD,u32s,hlb]
      refine AAny_free 2 [3] (by decide +kernel) rfl ?_
      refine AI_at _ rfl ?_
      simp (disch:=first|exact dd|fail) only [go_sem,seval,natD,u32s,hlb]
      refine AAny_free 3 [] (by decide +kernel) rfl ?_
      refine AI_at _ rfl ?_
      simp (disch:=first|exact dd|fail) only [go_sem,seval,natD,u32s,hlb]
      refine AAny_end ?_
      simp (disch:=first|exact dd|fail) only [go_sem,seval,natD,u32s]
      refine ⟨(b,a % b),⟨hb,Nat.lt_of_le_of_lt hm hb,by rw [gcd_step];exact hg⟩,hlt, ?_, ?_⟩
      · simp (disch:=first|exact dd|fail) only [go_sem,seval,natD,u32s]
      · simp (disch:=first|exact dd|fail) only [go_sem,seval,natD,u32s,hlb]
    refine forall_one ?_
    refine AI_at _ rfl ?_
    simp (disch:=first|exact dd|fail) only [go_sem,seval,natD,u32s,hlb]
    refine AAny_free 1 [3] (by decide +kernel) rfl ?_
    refine AI_at _ rfl ?_
    simp (disch:=first|exact dd|fail) only [go_sem,seval,natD,u32s,hlb]
    refine AAny_free 3 [] (by decide +kernel) rfl ?_
    refine AI_at _ rfl ?_
    simp (disch:=first|exact dd|fail) only [go_sem,seval,natD,u32s,hlb]
    refine AAny_end ?_
    simp (disch:=first|exact dd|fail) only [go_sem,seval,natD,u32s]
    refine ⟨(b,a % b),⟨hb,Nat.lt_of_le_of_lt hm hb,by rw [gcd_step];exact hg⟩,hlt, ?_, ?_⟩
    · simp (disch:=first|exact dd|fail) only [go_sem,seval,natD,u32s]
    · simp (disch:=first|exact dd|fail) only [go_sem,seval,natD,u32s,hlb]
  · have hb64:=nb_two (b:=b) (by omega)
    by_cases h0 : b = 0
    · subst h0
      rw [Nat.gcd_zero_right] at hg
      subst hg
      have hl0 : nb 0 = 0:=by unfold nb;rw [limbs_zero];rfl
      simp (disch:=first|exact dd|fail) only [go_sem,seval,natD,u32s,hlb,hl0]
    · have hlp:=limbs_ne h0
      have hlt : a % b < b:=Nat.mod_lt _ (by omega)
      have hm:=nb_mono (Nat.le_of_lt hlt)
      simp (disch:=first|exact dd|fail) only [go_sem,seval,natD,u32s,hlb]
      refine callC (nat_Div ha hb h0) ?_ rfl ?_
      · simp (disch:=first|exact dd|fail) only [go_sem,seval,natD_u32s,u32s,hlb]
        try exact LesV.refl _
      simp (disch:=first|exact dd|fail) only [go_sem,seval,natD,u32s,hlb]
      refine callCl (nat_Low (n:=b) (by omega)) ?_ rfl ?_
      · simp (disch:=first|exact dd|fail) only [go_sem,seval,natD_u32s,u32s,hlb]
        try exact LesV.refl _
      simp (disch:=first|exact dd|fail) only [go_sem,seval,natD,u32s,hlb]
      refine callCl (nat_Low (n:=a % b) (by omega)) ?_ rfl ?_
      · simp (disch:=first|exact dd|fail) only [go_sem,seval,natD_u32s,u32s,hlb]
        try exact LesV.refl _
      rw [Nat.mod_eq_of_lt hb64,Nat.mod_eq_of_lt (show a % b < 18446744073709551616 by omega)]
      simp (disch:=first|exact dd|fail) only [go_sem,seval,natD,u32s,hlb]
      rw [← gcd_step] at hg
      have hr64 : a % b < 18446744073709551616:=by omega
      refine AL.of (fun s : Nat × Nat => s.1 < 18446744073709551616 ∧ s.2 < 18446744073709551616 ∧ Nat.gcd s.1 s.2 = g) (fun s => s.2) (fun s => [(4, .ad 2 0),(11, .int .u64 s.1),(12, .int .u64 s.2)])
        (fun s => [(2, .var true 1 (.agg [.nils]))]) (b,a % b) ⟨hb64,hr64,hg⟩ ?_ ?_ ?_ ?_
      · simp (disch:=first|exact dd|fail) only [go_sem,seval]
      · simp (disch:=first|exact dd|fail) only [go_sem,seval]
      · intro x _;simp (disch:=first|exact dd|fail) only [go_sem,seval]
      clear hg ha hb h0 hlp hlt hm hb64 hr64 h2 hlb
      rintro ⟨x,y⟩ ⟨hx,hy,hg⟩
      simp only at hx hy hg
      have htm : (x : Int).tmod (y : Int) = ((x % y : Nat) : Int):=(Int.ofNat_tmod _ _).symm
      by_cases hy0 : y = 0
      · subst hy0
        rw [Nat.gcd_zero_right] at hg
        subst hg
        simp (disch:=first|exact dd|fail) only [go_sem,seval]
        refine cA (nat_Of hx) ?_
        simp (disch:=first|exact dd|fail) only [go_sem,seval,natD,u32s]
      · have hlt : x % y < y:=Nat.mod_lt _ (by omega)
        simp (disch:=first|exact dd|fail) only [go_sem,seval,htm]
        refine ⟨(y,x % y),⟨hy,Nat.lt_trans hlt hy,by rw [gcd_step];exact hg⟩,hlt, ?_, ?_⟩
        · simp (disch:=first|exact dd|fail) only [go_sem,seval]
        · simp (disch:=first|exact dd|fail) only [go_sem,seval]
theorem sgI_le (a b : Nat) : decide (sgI (a : Int) (b : Int) ≤ 0) = decide (a ≤ b):=by
  rcases (show a < b ∨ a = b ∨ b < a by omega) with h | h | h
  · rw [sgI_lt (by omega),decide_eq_true (show a ≤ b by omega)];rfl
  · rw [h,sgI_eq,decide_eq_true (Nat.le_refl b)];rfl
  · rw [sgI_gt (by omega),decide_eq_false (show ¬ a ≤ b by omega)];rfl
def DvP (a b : Nat) (s : Int × Nat × Nat) : Prop:=a = s.2.1 * b + s.2.2 ∧ s.2.2 < b * 2 ^ (s.1 + 1).toNat ∧ s.1 + nbit b ≤ nbit a
theorem nbit_ge {n : Nat} (h : n ≠ 0) : 2 ^ (nbit n - 1) ≤ n:=by
  rcases Nat.lt_or_ge n (2 ^ (nbit n - 1)) with h1 | h1
  · have h2:=nbit_lt.2 h1
    have h3:=nbit_pos (Nat.pos_of_ne_zero h)
    omega
  · exact h1
theorem DvP.zero {a b : Nat} (hb : b ≠ 0) : DvP a b ((nbit a : Int) - nbit b,0,a):=by
  refine ⟨by simp, ?_,by show (nbit a : Int) - nbit b + nbit b ≤ nbit a;omega⟩
  show a < b * 2 ^ ((nbit a : Int) - nbit b + 1).toNat
  have h1:=(nbit_lt (n:=a) (k:=nbit a)).1 (Nat.le_refl _)
  have h2:=nbit_ge hb
  have h3:=nbit_pos (Nat.pos_of_ne_zero hb)
  rcases Nat.lt_or_ge (nbit a) (nbit b) with h | h
  · have : ((nbit a : Int) - nbit b + 1).toNat = 0:=by omega
    rw [this,Nat.pow_zero,Nat.mul_one]
    have h4 : 2 ^ nbit a ≤ 2 ^ (nbit b - 1):=Nat.pow_le_pow_right (by omega) (by omega)
    omega
  · obtain ⟨d,hd⟩ : ∃ d,nbit a = nbit b - 1 + (d + 1):=⟨nbit a - nbit b,by omega⟩
    have : ((nbit a : Int) - nbit b + 1).toNat = d + 1:=by omega
    rw [this]
    rw [hd,Nat.pow_add] at h1
    exact Nat.lt_of_lt_of_le h1 (Nat.mul_le_mul_right _ h2)
theorem DvP.yes {a b j q r : Nat} (h : DvP a b ((j : Int),q,r)) (hx : b * 2 ^ j ≤ r) : DvP a b ((j : Int) - 1,q + 2 ^ j,r - b * 2 ^ j):=by
  obtain ⟨h1,h2,h3⟩:=h
  simp only at h1 h2 h3
  have e1 : ((j : Int) + 1).toNat = j + 1:=by omega
  have e2 : ((j : Int) - 1 + 1).toNat = j:=by omega
  rw [e1,Nat.pow_succ,← Nat.mul_assoc] at h2
  refine ⟨?_, ?_,by show (j : Int) - 1 + nbit b ≤ nbit a;omega⟩
  · show a = (q + 2 ^ j) * b + (r - b * 2 ^ j)
    rw [Nat.add_mul,Nat.mul_comm (2 ^ j) b]
    generalize b * 2 ^ j = x at *
    omega
  · show r - b * 2 ^ j < b * 2 ^ ((j : Int) - 1 + 1).toNat
    rw [e2]
    generalize b * 2 ^ j = x at *
    omega
theorem DvP.no {a b j q r : Nat} (h : DvP a b ((j : Int),q,r)) (hx : ¬ b * 2 ^ j ≤ r) : DvP a b ((j : Int) - 1,q,r):=by
  obtain ⟨h1,h2,h3⟩:=h
  simp only at h1 h2 h3
  have e2 : ((j : Int) - 1 + 1).toNat = j:=by omega
  exact ⟨h1,by show r < b * 2 ^ ((j : Int) - 1 + 1).toNat;rw [e2];omega,by show (j : Int) - 1 + nbit b ≤ nbit a;omega⟩
theorem DvP.fin {a b q r : Nat} {i : Int} (hb : b ≠ 0) (h : DvP a b (i,q,r)) (hi : i < 0) : a / b = q ∧ a % b = r:=by
  obtain ⟨h1,h2,h3⟩:=h
  simp only at h1 h2 h3
  have : (i + 1).toNat = 0:=by omega
  rw [this,Nat.pow_zero,Nat.mul_one] at h2
  exact div_mod_of (by omega) (by rw [h1,Nat.mul_comm]) h2
theorem DvP.sz {a b j q r : Nat} (hb : b ≠ 0) (h : DvP a b ((j : Int),q,r)) : nb q ≤ nb a ∧ nb r ≤ nb a ∧ nb (b * 2 ^ j) ≤ nb a ∧ nb (2 ^ j) ≤ nb a:=by
  obtain ⟨h1,h2,h3⟩:=h
  simp only at h1 h2 h3
  have hq : q * 1 ≤ q * b:=Nat.mul_le_mul_left _ (by omega)
  have hx : nb (b * 2 ^ j) ≤ nb a:=by
    have e:=nbit_shl hb j
    have h4:=(nb_nbit (n:=a) (k:=nb a)).1 (Nat.le_refl _)
    exact nb_nbit.2 (by omega)
  have hp : 1 * 2 ^ j ≤ b * 2 ^ j:=Nat.mul_le_mul_right _ (by omega)
  refine ⟨nb_mono (by omega),nb_mono (by omega),hx,Nat.le_trans (nb_mono (by omega)) hx⟩
theorem nD_zero : LeV .nils (nD 0):=by rw [nD,limbs_zero];exact LeV.nils
theorem ref_DivNat {a b : Nat} (ha : nb a < 60000000) (hb : nb b < 60000000) (hb0 : b ≠ 0) : C E 159 [nD a,nD b] (.tup [nD (a / b),nD (a % b)]):=by
  refine CG_intro Tryz.func159 rfl (by kernel_rfl) rfl (by kernel_rfl) (by kernel_rfl) rfl ?_
  have ba:=nbit_nb a
  have bb:=nbit_nb b
  simp (disch:=first|exact dd|fail) only [go_sem,seval]
  refine cA (ref_Bits (n:=a) (by omega)) ?_
  simp (disch:=first|exact dd|fail) only [go_sem,seval]
  refine cA (ref_Bits (n:=b) (by omega)) ?_
  simp (disch:=first|exact dd|fail) only [go_sem,seval]
  refine AL.of (DvP a b) (fun s => (s.1 + 1).toNat) (fun s => [(1,nD b),(6,nD s.2.1),(7,nD s.2.2),(8, .int .i64 s.1)]) (fun _ => []) ((nbit a : Int) - nbit b,0,a) (DvP.zero hb0) ?_ ?_ ?_ ?_
  · simp (disch:=first|exact dd|fail) only [go_sem,seval]
    exact nD_zero
  · simp (disch:=first|exact dd|fail) only [go_sem,seval]
  · intro x _;simp (disch:=first|exact dd|fail) only [go_sem,seval]
  rintro ⟨i,q,r⟩ hP
  by_cases hi : i < 0
  · obtain ⟨e1,e2⟩:=hP.fin hb0 hi
    rw [e1,e2]
    simp (disch:=first|exact dd|fail) only [go_sem,seval]
  · obtain ⟨j,rfl⟩:=Int.eq_ofNat_of_zero_le (show 0 ≤ i by omega)
    obtain ⟨z1,z2,z3,z4⟩:=hP.sz hb0
    have hj : (j : Int) + nbit b ≤ nbit a:=hP.2.2
    have hle:=sgI_le (b * 2 ^ j) r
    have hS:=ref_Shl (a:=b) (by omega) (n:=j) (by omega)
    have h1nb : nb 1 ≤ 1:=nb_lt.2 (by omega)
    have hS1:=ref_Shl (a:=1) (by omega) (n:=j) (by omega)
    rw [Nat.one_mul] at hS1
    have hy:=hP.yes
    have hn:=hP.no
    clear hP
    generalize b * 2 ^ j = x at *
    generalize 2 ^ j = p at *
    simp (disch:=first|exact dd|fail) only [go_sem,seval]
    refine cA hS ?_
    simp (disch:=first|exact dd|fail) only [go_sem,seval]
    refine cA (ref_CmpNat (a:=x) (b:=r) (by omega) (by omega)) ?_
    by_cases hx : x ≤ r
    · rw [decide_eq_true hx] at hle
      simp (disch:=first|exact dd|fail) only [go_sem,seval,hle]
      refine cA (ref_SubNat (a:=r) (b:=x) (by omega) (by omega) hx) ?_
      simp (disch:=first|exact dd|fail) only [go_sem,seval]
      refine cA (ref_NatOf (v:=1) (by omega)) ?_
      simp (disch:=first|exact dd|fail) only [go_sem,seval]
      refine cA hS1 ?_
      simp (disch:=first|exact dd|fail) only [go_sem,seval]
      refine cA (ref_AddNat (a:=q) (b:=p) (by omega) (by omega)) ?_
      simp (disch:=first|exact dd|fail) only [go_sem,seval]
      refine ⟨_,hy hx,by show ((j : Int) - 1 + 1).toNat < ((j : Int) + 1).toNat;omega, ?_, ?_⟩
      · simp (disch:=first|exact dd|fail) only [go_sem,seval]
      · simp (disch:=first|exact dd|fail) only [go_sem,seval]
    · rw [decide_eq_false hx] at hle
      simp (disch:=first|exact dd|fail) only [go_sem,seval,hle]
      refine ⟨_,hn hx,by show ((j : Int) - 1 + 1).toNat < ((j : Int) + 1).toNat;omega, ?_, ?_⟩
      · simp (disch:=first|exact dd|fail) only [go_sem,seval]
      · simp (disch:=first|exact dd|fail) only [go_sem,seval]
theorem ref_Gcd {a b : Nat} (ha : nb a < 60000000) (hb : nb b < 60000000) : C E 116 [nD a,nD b] (nD (Nat.gcd a b)):=by
  refine CG_intro Tryz.func116 rfl (by kernel_rfl) rfl (by kernel_rfl) (by kernel_rfl) rfl ?_
  simp (disch:=first|exact dd|fail) only [go_sem,seval]
  generalize hg : Nat.gcd a b = g
  refine AL.of (fun s : Nat × Nat => nb s.1 < 60000000 ∧ nb s.2 < 60000000 ∧ Nat.gcd s.1 s.2 = g) (fun s => s.2) (fun s => [(0,nD s.1),(1,nD s.2)]) (fun _ => []) (a,b) ⟨ha,hb,hg⟩ ?_ ?_ ?_ ?_
  · simp (disch:=first|exact dd|fail) only [go_sem,seval]
  · simp (disch:=first|exact dd|fail) only [go_sem,seval]
  · intro x _;simp (disch:=first|exact dd|fail) only [go_sem,seval]
  clear hg ha hb
  rintro ⟨a,b⟩ ⟨ha,hb,hg⟩
  simp only at ha hb hg
  have hlb : (limbs b).length = nb b:=rfl
  by_cases h0 : b = 0
  · subst h0
    rw [Nat.gcd_zero_right] at hg
    subst hg
    have hl0 : nb 0 = 0:=by unfold nb;rw [limbs_zero];rfl
    simp (disch:=first|exact dd|fail) only [go_sem,seval,nD,u32s,hlb,hl0]
  · have hp:=limbs_ne h0
    have hlt : a % b < b:=Nat.mod_lt _ (by omega)
    have hm:=nb_mono (Nat.le_of_lt hlt)
    simp (disch:=first|exact dd|fail) only [go_sem,seval,nD,u32s,hlb]
    refine callC (ref_DivNat ha hb h0) ?_ rfl ?_
    · simp (disch:=first|exact dd|fail) only [go_sem,seval,nD,u32s,hlb]
    simp (disch:=first|exact dd|fail) only [go_sem,seval,nD,u32s,hlb]
    refine ⟨(b,a % b),⟨hb,Nat.lt_of_le_of_lt hm hb,by rw [gcd_step];exact hg⟩,hlt, ?_, ?_⟩
    · simp (disch:=first|exact dd|fail) only [go_sem,seval,nD,u32s,hlb]
    · simp (disch:=first|exact dd|fail) only [go_sem,seval]
theorem nat_Mul {a b : Nat} (ha : nb a < 536870912) (hb : nb b < 536870912) : C E 198 [natD a,natD b] (natD (a * b)):=by
  refine CG_intro Tryz.func198 rfl (by kernel_rfl) rfl (by kernel_rfl) (by kernel_rfl) rfl ?_
  unfold nb at ha hb
  have va:=val_limbs a
  have vb:=val_limbs b
  have la:=limbs_low a
  have lb:=limbs_low b
  simp only [natD]
  generalize limbs a = l at *
  generalize limbs b = m at *
  subst va vb
  have e0 : ((l.length : Int) + (m.length : Int)).toNat = l.length + m.length:=by omega
  simp (disch:=first|exact dd|fail) only [go_sem,seval,natD,u32s,e0]
  refine ⟨by omega,by omega,by omega, ?_⟩
  refine AL.of (fun s : Nat × List Nat => s.1 ≤ l.length ∧ MulI l m s.1 s.2) (fun s => l.length - s.1) (fun s => [(2, .ad 0 0),(3, .ad 1 0),(4, .ad 2 0),(5, .sl 3 0 0 (l.length + m.length)),(20,u32s l),(21, .int .i64 l.length),(22, .int .i64 s.1)])
    (fun s => [(3, .row false 0 false 1 (l.length + m.length) (lR s.2)),(2, .var true 1 (.agg [.nils])),(1, .var true 1 (.agg [u32s m])),(0, .var true 1 (.agg [u32s l]))]) (0,List.replicate (l.length + m.length) 0) ⟨Nat.zero_le _,MulI.zero l m⟩ ?_ ?_ ?_ ?_
  · simp (disch:=first|exact dd|fail) only [go_sem,seval,u32s,e0]
  · simp (disch:=first|exact dd|fail) only [go_sem,seval,u32s,e0]
    try exact fun i hi => Le.of_eq (by unfold lR;rw [List.getD_eq_getElem?_getD,List.getElem?_replicate,if_pos hi];rfl)
  · intro x _;simp (disch:=first|exact dd|fail) only [go_sem,seval]
  rintro ⟨i,w⟩ ⟨hil,hI⟩
  simp only at hil hI
  by_cases hi : i = l.length
  · subst hi
    obtain ⟨q1,q2⟩:=hI.fin
    have hlen:=hI.1
    have hc:=nat_cut q1 (by omega)
    rw [q2] at hc
    clear hI q1 q2
    simp (disch:=first|exact dd|fail) only [go_sem,seval,u32s]
    refine callC hc ?_ rfl ?_
    · simp (disch:=first|exact dd|fail) only [go_sem,seval,u32s]
      exact LesV_rows (by omega) fun j hj => rfl
    simp (disch:=first|exact dd|fail) only [go_sem,seval]
    try exact LeV.refl _
  · have hi' : i < l.length:=by omega
    simp (disch:=first|exact dd|fail) only [go_sem,seval,u32s,lR]
    refine AL.of (MulK l m w i) (fun s => m.length - s.1) (fun s => [(2, .ad 0 0),(3, .ad 1 0),(4, .ad 2 0),(5, .sl 3 0 0 (l.length + m.length)),(20,u32s l),(21, .int .i64 l.length),(22, .int .i64 i),(6, .int .i64 i),(7, .int .u32 ((l.getD i 0 : Nat) : Int)),(8, .int .u64 s.2.1),(28,u32s m),(29, .int .i64 m.length),(30, .int .i64 s.1)])
      (fun s => [(3, .row false 0 false 1 (l.length + m.length) (lR s.2.2)),(2, .var true 1 (.agg [.nils])),(1, .var true 1 (.agg [u32s m])),(0, .var true 1 (.agg [u32s l]))]) (0,0,w) (MulK.zero hI) ?_ ?_ ?_ ?_
    · simp (disch:=first|exact dd|fail) only [go_sem,seval,u32s]
    · simp (disch:=first|exact dd|fail) only [go_sem,seval,u32s]
      try exact fun _ _ => trivial
    · intro x _;simp (disch:=first|exact dd|fail) only [go_sem,seval]
    rintro ⟨k,c,w'⟩ hK
    have hn:=hK.next la lb
    have hf:=hK
    obtain ⟨h1,h2,h3,h4,h5,h6⟩:=hK
    simp only at h1 h2 h3 h4 h5 h6
    by_cases hk : k = m.length
    · subst hk
      have hn':=hf.fin hI hi'
      have e1 : ((i : Int) + (m.length : Int)).toNat = i + m.length:=by omega
      have ew : IntKind.u32.wrap (c : Int) = (c : Int):=wrap_u32 (by omega)
      clear h5 h6 hf hn hI h4
      simp (disch:=first|exact dd|fail) only [go_sem,seval,u32s,e1,ew]
      refine ⟨(i + 1,_),⟨hi',hn'⟩,by show l.length - (i + 1) < l.length - i;omega, ?_, ?_⟩
      · simp (disch:=first|exact dd|fail) only [go_sem,seval,u32s]
        try exact LeV.of_eq (by rw [Int.natCast_succ])
      · simp (disch:=first|exact dd|fail) only [go_sem,seval,u32s]
        exact fun j hj => Le.of_eq (lR_set' (by omega))
    · have hk' : k < m.length:=by omega
      have hn':=hn hi' hk'
      have e1 : ((i : Int) + (k : Int)).toNat = i + k:=by omega
      obtain ⟨w1,w2,w3,w4,w5⟩:=wr_mul h2 (la.getD i) (lb.getD k) (h4.getD (i + k))
      have gx:=la.getD i
      have gy:=lb.getD k
      have gz:=h4.getD (i + k)
      clear h5 h6 hf hn hI h4
      simp (disch:=first|exact dd|fail) only [go_sem,seval,u32s,lR,e1,w1,w2,w3,w4,w5]
      refine ⟨_,hn',by show m.length - (k + 1) < m.length - k;omega, ?_, ?_⟩
      · simp (disch:=first|exact dd|fail) only [go_sem,seval,u32s]
        try exact LeV.of_eq (by rw [Int.natCast_succ])
      · simp (disch:=first|exact dd|fail) only [go_sem,seval,u32s]
        exact fun j hj => Le.of_eq (lR_set' (by omega))
theorem sgI_congr {a b c d : Int} (h1 : a < b ↔ c < d) (h2 : a = b ↔ c = d) : sgI a b = sgI c d:=by
  unfold sgI
  simp only [h1,h2]
theorem whole_Cmp {a b : Int} (ha : nb a.natAbs < 1073741824) (hb : nb b.natAbs < 1073741824) : C E 167 [zD a,zD b] (.int .i64 (sgI a b)):=by
  refine CG_intro Tryz.func167 rfl (by kernel_rfl) rfl (by kernel_rfl) (by kernel_rfl) rfl ?_
  have t1 : (true == true) = true:=rfl
  have t2 : (true == false) = false:=rfl
  have t3 : (false == true) = false:=rfl
  have t4 : (false == false) = true:=rfl
  by_cases h1 : a < 0
  · have e1 : decide (a < 0) = true:=decide_eq_true h1
    by_cases h2 : b < 0
    · have e2 : decide (b < 0) = true:=decide_eq_true h2
      simp (disch:=first|exact dd|fail) only [go_sem,seval,e1,e2,t1,t2,t3,t4]
      refine callC (nat_Cmp hb ha) ?_ rfl ?_
      · simp (disch:=first|exact dd|fail) only [go_sem,seval,natD_u32s]
        try exact LesV.refl _
      simp (disch:=first|exact dd|fail) only [go_sem,seval]
      exact LeV.of_eq (by rw [sgI_congr (c:=a) (d:=b) (by omega) (by omega)])
    · have e2 : decide (b < 0) = false:=decide_eq_false h2
      simp (disch:=first|exact dd|fail) only [go_sem,seval,e1,e2,t1,t2,t3,t4]
      exact LeV.of_eq (by rw [sgI_lt (by omega)])
  · have e1 : decide (a < 0) = false:=decide_eq_false h1
    by_cases h2 : b < 0
    · have e2 : decide (b < 0) = true:=decide_eq_true h2
      simp (disch:=first|exact dd|fail) only [go_sem,seval,e1,e2,t1,t2,t3,t4]
      exact LeV.of_eq (by rw [sgI_gt (by omega)])
    · have e2 : decide (b < 0) = false:=decide_eq_false h2
      simp (disch:=first|exact dd|fail) only [go_sem,seval,e1,e2,t1,t2,t3,t4]
      refine callC (nat_Cmp ha hb) ?_ rfl ?_
      · simp (disch:=first|exact dd|fail) only [go_sem,seval,natD_u32s]
        try exact LesV.refl _
      simp (disch:=first|exact dd|fail) only [go_sem,seval]
      exact LeV.of_eq (by rw [sgI_congr (c:=a) (d:=b) (by omega) (by omega)])
end Go.Proofs.YtakaojkfipnfcaaGreatDoor.Lv
