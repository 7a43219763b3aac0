/- Monomials: the reference, and two laws. Polynomials of texts. Polynomials of texts: the document's. Polynomials: exponents, variables. strings.Builder. What is read as a number is its text; are both the same? A first box. The program's Neg, Sub, Width, Widest; the first call of law 6. The first call of law 6; the law of the widest side. The law of a box' texts. Boxes as bytes. -/
import Derived.Test.YtakaojkfipnfcaaGreatDoorG20
import Derived.Test.YtakaojkfipnfcaaGreatDoorG18
import Derived.Test.YtakaojkfipnfcaaGreatDoorG14
import Derived.Test.YtakaojkfipnfcaaGreatDoorG19
set_option linter.unusedVariables false
set_option linter.unusedSimpArgs false
set_option maxRecDepth 100000
set_option maxHeartbeats 4000000
namespace Go.Proofs.YtakaojkfipnfcaaGreatDoor.Lv
open Go Go.RowKit
theorem ref_Degree {a b c : Nat} (ha : a < 256) (hb : b < 256) (hc : c < 256) : C E 164 [monoD a b c] (.int .i64 ((a + b + c : Nat) : Int)):=by
  refine CG_intro Tryz.func164 rfl (by kernel_rfl) rfl (by kernel_rfl) (by kernel_rfl) rfl ?_
  simp (disch:=first|exact dd|fail) only [go_sem,seval,monoD]
  exact LeV.of_eq (by congr 1)
theorem ref_MonoVars {a b c : Nat} : C E 85 [monoD a b c] (.int .i64 (vars a b c)):=by
  refine CG_intro Tryz.func85 rfl (by kernel_rfl) rfl (by kernel_rfl) (by kernel_rfl) rfl ?_
  simp (disch:=first|exact dd|fail) only [go_sem,seval,monoD]
  have e : ∀ n : Nat,((n : Int) > 0) ↔ n > 0:=by intro n;omega
  by_cases h1 : (a : Int) > 0 <;> by_cases h2 : (b : Int) > 0 <;> by_cases h3 : (c : Int) > 0
  all_goals
    refine AL.step ?_
    simp (disch:=first|exact dd|fail) only [go_sem,seval,monoD,h1]
    refine AL.step ?_
    simp (disch:=first|exact dd|fail) only [go_sem,seval,monoD,h2]
    refine AL.step ?_
    simp (disch:=first|exact dd|fail) only [go_sem,seval,monoD,h3]
    refine AL.step ?_
    simp (disch:=first|exact dd|fail) only [go_sem,seval,monoD]
    refine LeV.of_eq ?_
    rw [e] at h1 h2 h3
    simp [vars,h1,h2,h3]
theorem ref_MonoCmp {a b c a' b' c' : Nat} (ha : a < 256) (hb : b < 256) (hc : c < 256) (ha' : a' < 256) (hb' : b' < 256) (hc' : c' < 256) : C E 126 [monoD a b c,monoD a' b' c'] (.int .i64 (mcmp a b c a' b' c')):=by
  refine CG_intro Tryz.func126 rfl (by kernel_rfl) rfl (by kernel_rfl) (by kernel_rfl) rfl ?_
  simp (disch:=first|exact dd|fail) only [go_sem,seval,monoD]
  refine callCl (ref_Degree ha hb hc) (LesV.refl _) rfl ?_
  simp (disch:=first|exact dd|fail) only [go_sem,seval,monoD]
  refine callCl (ref_Degree ha' hb' hc') (LesV.refl _) rfl ?_
  unfold mcmp
  generalize hd : ((a + b + c : Nat) : Int) = d
  generalize hd' : ((a' + b' + c' : Nat) : Int) = d'
  have one : ∀ x y : Int,x < y → ¬ y < x:=by intro x y;omega
  rcases sg_cases d d' with ⟨h,e⟩ | ⟨h,e⟩ | ⟨h,e⟩
  · have hn : (d != d') = true:=by simp;omega
    simp (disch:=first|exact dd|fail) only [go_sem,seval,monoD,hn]
    rw [← hd]
    refine callCl (ref_Degree ha hb hc) (LesV.refl _) rfl ?_
    simp (disch:=first|exact dd|fail) only [go_sem,seval,monoD]
    refine callCl (ref_Degree ha' hb' hc') (LesV.refl _) rfl ?_
    rw [hd,hd']
    simp (disch:=first|exact dd|fail) only [go_sem,seval,monoD,h]
    exact LeV.of_eq (by simp [e])
  · subst h
    rw [e]
    simp (disch:=first|exact dd|fail) only [go_sem,seval,monoD,show (d != d) = false by simp]
    refine AL.step ?_
    rcases sg_cases (a : Int) a' with ⟨h1,e1⟩ | ⟨h1,e1⟩ | ⟨h1,e1⟩
    · simp (disch:=first|exact dd|fail) only [go_sem,seval,monoD,h1]
      exact LeV.of_eq (by simp [lex,e1])
    · simp (disch:=first|exact dd|fail) only [go_sem,seval,monoD,show ¬ (a : Int) < a' by omega,show ¬ (a : Int) > a' by omega]
      refine AL.step ?_
      rcases sg_cases (b : Int) b' with ⟨h2,e2⟩ | ⟨h2,e2⟩ | ⟨h2,e2⟩
      · simp (disch:=first|exact dd|fail) only [go_sem,seval,monoD,h2]
        exact LeV.of_eq (by simp [lex,e1,e2])
      · simp (disch:=first|exact dd|fail) only [go_sem,seval,monoD,show ¬ (b : Int) < b' by omega,show ¬ (b : Int) > b' by omega]
        refine AL.step ?_
        rcases sg_cases (c : Int) c' with ⟨h3,e3⟩ | ⟨h3,e3⟩ | ⟨h3,e3⟩
        · simp (disch:=first|exact dd|fail) only [go_sem,seval,monoD,h3]
          exact LeV.of_eq (by first | (exfalso;omega) | simp [lex,e1,e2,e3])
        · simp (disch:=first|exact dd|fail) only [go_sem,seval,monoD,show ¬ (c : Int) < c' by omega,show ¬ (c : Int) > c' by omega]
          refine AL.step ?_
          simp (disch:=first|exact dd|fail) only [go_sem,seval,monoD]
          exact LeV.of_eq (by first | (exfalso;omega) | simp [lex,e1,e2,e3])
        · simp (disch:=first|exact dd|fail) only [go_sem,seval,monoD,show ¬ (c : Int) < c' by omega,show (c : Int) > c' by omega]
          exact LeV.of_eq (by first | (exfalso;omega) | simp [lex,e1,e2,e3])
      · simp (disch:=first|exact dd|fail) only [go_sem,seval,monoD,show ¬ (b : Int) < b' by omega,show (b : Int) > b' by omega]
        exact LeV.of_eq (by simp [lex,e1,e2])
    · simp (disch:=first|exact dd|fail) only [go_sem,seval,monoD,show ¬ (a : Int) < a' by omega,show (a : Int) > a' by omega]
      exact LeV.of_eq (by simp [lex,e1])
  · have hn : (d != d') = true:=by simp;omega
    simp (disch:=first|exact dd|fail) only [go_sem,seval,monoD,hn]
    rw [← hd]
    refine callCl (ref_Degree ha hb hc) (LesV.refl _) rfl ?_
    simp (disch:=first|exact dd|fail) only [go_sem,seval,monoD]
    refine callCl (ref_Degree ha' hb' hc') (LesV.refl _) rfl ?_
    rw [hd,hd']
    simp (disch:=first|exact dd|fail) only [go_sem,seval,monoD,show ¬ d < d' by omega]
    exact LeV.of_eq (by simp [e])
abbrev Mn:=UInt8 × UInt8 × UInt8
def mD (m : Mn) : D:=monoD m.1.toNat m.2.1.toNat m.2.2.toNat
def mC (x y : Mn) : Int:=mcmp x.1.toNat x.2.1.toNat x.2.2.toNat y.1.toNat y.2.1.toNat y.2.2.toNat
theorem mn_Cmp (x y : Mn) : C E 110 [mD x,mD y] (.int .i64 (mC x y)):=mono_Cmp (UInt8.toNat_lt _) (UInt8.toNat_lt _) (UInt8.toNat_lt _) (UInt8.toNat_lt _) (UInt8.toNat_lt _) (UInt8.toNat_lt _)
theorem ref_mnCmp (x y : Mn) : C E 126 [mD x,mD y] (.int .i64 (mC x y)):=ref_MonoCmp (UInt8.toNat_lt _) (UInt8.toNat_lt _) (UInt8.toNat_lt _) (UInt8.toNat_lt _) (UInt8.toNat_lt _) (UInt8.toNat_lt _)
abbrev Tm:=Mn × Txt
abbrev Pt:=Mn × Rat
def tm0 : Tm:=((0,0,0),[])
def pt0 : Pt:=((0,0,0),0)
def tmC (t : Tm) : D:=.agg [.int .u8 t.1.1.toNat, .int .u8 t.1.2.1.toNat, .int .u8 t.1.2.2.toNat, .str t.2]
def tmR (l : List Tm) : Nat → D:=fun i => tmC (l.getD i tm0)
def tmD (l : List Tm) : D:=.ro true 4 l.length (tmR l)
def ptC (t : Pt) : D:=.agg [.int .u8 t.1.1.toNat, .int .u8 t.1.2.1.toNat, .int .u8 t.1.2.2.toNat,u32s (limbs t.2.num.natAbs), .bool (decide (t.2.num < 0)),u32s (limbs (qden t.2))]
def ptR (l : List Pt) : Nat → D:=fun i => ptC (l.getD i pt0)
def ptsD (l : List Pt) : D:=.ro true 6 l.length (ptR l)
def pD (l : List Pt) : D:=.agg [ptsD l]
def rtC (t : Pt) : D:=.agg [.int .u8 t.1.1.toNat, .int .u8 t.1.2.1.toNat, .int .u8 t.1.2.2.toNat, .bool (decide (t.2.num < 0)),nD t.2.num.natAbs,nD t.2.den]
def rtR (l : List Pt) : Nat → D:=fun i => rtC (l.getD i pt0)
def rtD (l : List Pt) : D:=.ro true 6 l.length (rtR l)
section
variable (l : List Tm) (p : List Pt) (h : Hp) (ρ : Nat → Option Nat)
theorem cl_tm : cl (tmD l) = true:=Eq.trans rfl rfl
theorem flat_tm : flat (tmD l) = false:=Eq.trans rfl rfl
theorem imp_tm : imp ρ h (tmD l) = tmD l:=Eq.trans rfl rfl
theorem refs_tm : refs ρ (tmD l) = []:=Eq.trans rfl rfl
theorem one_tm : one h (tmD l) = true:=Eq.trans rfl rfl
theorem flat_pts : flat (ptsD p) = false:=Eq.trans rfl rfl
theorem imp_pts : imp ρ h (ptsD p) = ptsD p:=Eq.trans rfl rfl
theorem one_pts : one h (ptsD p) = true:=Eq.trans rfl rfl
theorem cl_rt : cl (rtD p) = true:=Eq.trans rfl rfl
theorem flat_rt : flat (rtD p) = false:=Eq.trans rfl rfl
theorem imp_rt : imp ρ h (rtD p) = rtD p:=Eq.trans rfl rfl
theorem one_rt : one h (rtD p) = true:=Eq.trans rfl rfl
end
attribute [go_sem] cl_tm flat_tm imp_tm refs_tm one_tm flat_pts imp_pts one_pts cl_rt flat_rt imp_rt one_rt
def okT (l : List Tm) (i : Nat) : Bool:=(match rpO (l.getD i tm0).2 with | some q => decide (q.num ≠ 0) | none => false) && (decide (i = 0) || decide (mC (l.getD (i - 1) tm0).1 (l.getD i tm0).1 < 0))
def okPl (l : List Tm) : Bool:=(List.range l.length).all (okT l)
def pV (l : List Tm) : List Pt:=l.map fun t => (t.1,(rpO t.2).getD 0)
theorem getD_mem' {α : Type} (l : List α) (k : Nat) (d : α) (h : k < l.length) : l.getD k d ∈ l:=by
  rw [List.getD_eq_getElem?_getD,List.getElem?_eq_getElem h]
  exact List.getElem_mem h
theorem pV_at {l : List Tm} {i : Nat} (hi : i < l.length) : (pV l).getD i pt0 = ((l.getD i tm0).1,(rpO (l.getD i tm0).2).getD 0):=by
  unfold pV
  rw [List.getD_eq_getElem?_getD,List.getElem?_map,List.getD_eq_getElem?_getD,List.getElem?_eq_getElem hi]
  rfl
theorem pV_len (l : List Tm) : (pV l).length = l.length:=by unfold pV;rw [List.length_map]
theorem okPl_of {l : List Tm} (h : ∀ i,i < l.length → okT l i = true) : okPl l = true:=by
  unfold okPl
  rw [List.all_eq_true]
  exact fun i hi => h i (List.mem_range.1 hi)
theorem okPl_no {l : List Tm} {i : Nat} (hi : i < l.length) (h : okT l i = false) : okPl l = false:=by
  unfold okPl
  rw [List.all_eq_false]
  exact ⟨i,List.mem_range.2 hi,by rw [h];simp⟩
def ppD (l : List Tm) : D:=.tup [pD (if okPl l = true then pV l else []), .int .i64 (if okPl l = true then 0 else 2)]
theorem LeV_p0 (k : Int) : LeV (.tup [.agg [.nils], .int .i64 k]) (.tup [pD [], .int .i64 k]):=
  LeV.tup (LesV.cons (LeV.agg (LesV.cons LeV.nils (LesV.refl _))) (LesV.refl _))
theorem pp_no {l : List Tm} (h : okPl l = false) : LeV (.tup [.agg [.nils], .int .i64 2]) (ppD l):=by
  unfold ppD
  rw [h]
  exact LeV_p0 2
theorem poly_Parse {l : List Tm} (hl : l.length < 1073741824) (ht : ∀ p ∈ l,p.2.length < 9223372036854775808) : C E 72 [tmD l] (ppD l):=by
  refine CG_intro Tryz.func72 rfl (by kernel_rfl) rfl (by kernel_rfl) (by kernel_rfl) rfl ?_
  by_cases h0 : l.length = 0
  · obtain rfl : l = []:=List.eq_nil_of_length_eq_zero h0
    simp (disch:=first|exact dd|fail) only [go_sem,seval,tmD]
    refine AL.step ?_
    simp (disch:=first|exact dd|fail) only [go_sem,seval,tmD]
    exact LeV_p0 0
  have hp0 : tmR l 0 = tmC (l.getD 0 tm0):=rfl
  have hk0 : okT l 0 = (match rpO (l.getD 0 tm0).2 with | some q => decide (q.num ≠ 0) | none => false):=by
    unfold okT;simp
  have hv0:=pV_at (l:=l) (i:=0) (by omega)
  have hr:=rat_Parse (l.getD 0 tm0).2 (ht _ (getD_mem' l 0 _ (by omega)))
  generalize he0 : l.getD 0 tm0 = t at *
  simp (disch:=first|exact dd|fail) only [go_sem,seval,tmD]
  refine AL.step ?_
  simp (disch:=first|exact dd|fail) only [go_sem,seval,tmD,hp0,tmC]
  cases hq : rpO t.2 with
  | none =>
    rw [hq] at hk0
    have hno:=okPl_no (l:=l) (i:=0) (by omega) hk0
    simp only [rpD,hq,Option.getD_none,Option.isSome_none,Bool.false_eq_true,if_false] at hr
    refine cA hr ?_
    simp (disch:=first|exact dd|fail) only [go_sem,seval]
    exact pp_no hno
  | some q =>
    rw [hq] at hk0
    have hS:=rat_Sign ((rpO_qb hq).qs (by omega))
    simp only [rpD,hq,Option.getD_some,Option.isSome_some,if_true] at hr
    refine cA hr ?_
    simp (disch:=first|exact dd|fail) only [go_sem,seval]
    refine cA hS ?_
    by_cases hz : q.num = 0
    · have hno:=okPl_no (l:=l) (i:=0) (by omega) (by rw [hk0];simp [hz])
      have hs : sgI q.num 0 = 0:=by rw [hz];exact sgI_eq 0
      simp (disch:=first|exact dd|fail) only [go_sem,seval,hs]
      exact pp_no hno
    have hs : (sgI q.num 0 == 0) = false:=by
      have:=sgI_cases q.num 0
      rw [beq_eq_false_iff_ne]
      omega
    have hk1 : okT l 0 = true:=by rw [hk0];simp [hz]
    have hl0 : l.getD 0 tm0 = t:=he0
    simp (disch:=first|exact dd|fail) only [go_sem,seval,hs,qD]
    refine ⟨.inl trivial, .inr trivial, ?_⟩
    refine AL.of (fun k : Nat => k < l.length ∧ ∀ j,j ≤ k → okT l j = true) (fun k => l.length - k) (fun k => [(0,tmD l),(2, .ad 0 0),(4, .ad 1 0),(9,tmD l),(10, .int .i64 l.length),(11, .int .i64 ((k + 1 : Nat) : Int))])
      (fun k => [(0, .var true 1 (.agg [.nils])),(1, .var true 1 (.agg [.sl 5 k 0 (k + 1)])),(5, .row false k true 6 (k + 1) (ptR (pV l)))]) 0 ⟨by omega,fun j hj => by rw [show j = 0 by omega];exact hk1⟩ ?_ ?_ ?_ ?_
    · simp (disch:=first|exact dd|fail) only [go_sem,seval,tmD]
      try exact LeV.refl _
    · simp (disch:=first|exact dd|fail) only [go_sem,seval]
      intro i hi
      obtain rfl : i = 0:=by omega
      have e : ptR (pV l) 0 = ptC (t.1,q):=by unfold ptR;rw [hv0,hq];rfl
      rw [e]
      exact Le.refl _
    · intro x _;simp (disch:=first|exact dd|fail) only [go_sem,seval]
    rintro k ⟨hk,hok⟩
    clear hk0 hk1 hs hS hr hz hv0 hp0 hq he0 hl0
    by_cases hkl : k + 1 = l.length
    · have hyes:=okPl_of (l:=l) fun i hi => hok i (by omega)
      simp (disch:=first|exact dd|fail) only [go_sem,seval,tmD,hkl]
      unfold ppD
      rw [hyes]
      exact LeV.tup (LesV.cons (LeV.agg (LesV.cons (LeV.ro (pV_len l).symm fun j hj => Le.refl _) (LesV.refl _))) (LesV.refl _))
    have hp1 : tmR l (k + 1) = tmC (l.getD (k + 1) tm0):=rfl
    have hpk : tmR l (((k + 1 : Nat) : Int) - 1).toNat = tmC (l.getD k tm0):=by rw [show (((k + 1 : Nat) : Int) - 1).toNat = k by omega];rfl
    have hk0 : okT l (k + 1) = ((match rpO (l.getD (k + 1) tm0).2 with | some q => decide (q.num ≠ 0) | none => false) && decide (mC (l.getD k tm0).1 (l.getD (k + 1) tm0).1 < 0)):=by
      unfold okT;simp
    have hv0:=pV_at (l:=l) (i:=k + 1) (by omega)
    have hr:=rat_Parse (l.getD (k + 1) tm0).2 (ht _ (getD_mem' l (k + 1) _ (by omega)))
    have hC:=mn_Cmp (l.getD k tm0).1 (l.getD (k + 1) tm0).1
    generalize l.getD (k + 1) tm0 = t at *
    generalize l.getD k tm0 = t' at *
    simp (disch:=first|exact dd|fail) only [go_sem,seval,tmD,hp1,tmC]
    cases hq : rpO t.2 with
    | none =>
      rw [hq] at hk0
      have hno:=okPl_no (l:=l) (i:=k + 1) (by omega) (by rw [hk0];rfl)
      simp only [rpD,hq,Option.getD_none,Option.isSome_none,Bool.false_eq_true,if_false] at hr
      refine cA hr ?_
      simp (disch:=first|exact dd|fail) only [go_sem,seval]
      exact pp_no hno
    | some q =>
      rw [hq] at hk0
      have hS:=rat_Sign ((rpO_qb hq).qs (by omega))
      simp only [rpD,hq,Option.getD_some,Option.isSome_some,if_true] at hr
      refine cA hr ?_
      simp (disch:=first|exact dd|fail) only [go_sem,seval]
      refine cA hS ?_
      by_cases hz : q.num = 0
      · have hno:=okPl_no (l:=l) (i:=k + 1) (by omega) (by rw [hk0];simp [hz])
        have hs : sgI q.num 0 = 0:=by rw [hz];exact sgI_eq 0
        simp (disch:=first|exact dd|fail) only [go_sem,seval,hs]
        exact pp_no hno
      have hs : (sgI q.num 0 == 0) = false:=by
        have:=sgI_cases q.num 0
        rw [beq_eq_false_iff_ne]
        omega
      simp (disch:=first|exact dd|fail) only [go_sem,seval,hs,hpk,tmC]
      refine cA hC ?_
      by_cases hm : mC t'.1 t.1 < 0
      · have hm2 : decide (0 ≤ mC t'.1 t.1) = false:=decide_eq_false (by omega)
        have hk1 : okT l (k + 1) = true:=by rw [hk0];simp [hz,hm]
        simp (disch:=first|exact dd|fail) only [go_sem,seval,hm,hm2,qD]
        refine ⟨.inl trivial, .inr trivial,by omega,by omega,k + 1,⟨by omega,fun j hj => ?_⟩,by show l.length - (k + 1) < l.length - k;omega, ?_, ?_⟩
        · rcases Nat.lt_or_ge j (k + 1) with h | h
          · exact hok j (by omega)
          · rw [show j = k + 1 by omega];exact hk1
        · simp (disch:=first|exact dd|fail) only [go_sem,seval,tmD]
          try exact LeV.refl _
        · simp (disch:=first|exact dd|fail) only [go_sem,seval]
          intro i hi
          by_cases h : i < k + 1
          · rw [if_pos h]
            exact Le.refl _
          · obtain rfl : i = k + 1:=by omega
            have e : ptR (pV l) (k + 1) = ptC (t.1,q):=by unfold ptR;rw [hv0,hq];rfl
            rw [if_neg h,e,Nat.sub_self]
            exact Le.refl _
      · have hno:=okPl_no (l:=l) (i:=k + 1) (by omega) (by rw [hk0];simp [hz,hm])
        simp (disch:=first|exact dd|fail) only [go_sem,seval,hm]
        exact pp_no hno
def rpp (l : List Tm) : D:=.tup [if okPl l = true then rtD (pV l) else .nils, .bool (okPl l)]
theorem ref_PolyParse {l : List Tm} (hl : l.length < 1073741824) (ht : ∀ p ∈ l,p.2.length < 9223372036854775808) : C E 83 [tmD l] (rpp l):=by
  refine CG_intro Tryz.func83 rfl (by kernel_rfl) rfl (by kernel_rfl) (by kernel_rfl) rfl ?_
  simp (disch:=first|exact dd|fail) only [go_sem,seval]
  refine AL.ofN 4 true 6 (fun _ => .unk) (fun k : Nat => k ≤ l.length ∧ ∀ j,j < k → okT l j = true) (fun k => l.length - k) (fun k => [(0,tmD l),(4, .sl 0 k 0 k),(5, .int .i64 k)]) (fun k => [(0, .row false k true 6 k (rtR (pV l)))]) 0 (by simp (disch:=first|exact dd|fail) only [go_sem,seval]) ⟨Nat.zero_le _,fun j hj => absurd hj (by omega)⟩ ?_ ?_ ?_ ?_
  · simp (disch:=first|exact dd|fail) only [go_sem,seval]
    try exact LeV.refl _
  · simp (disch:=first|exact dd|fail) only [go_sem,seval]
    try exact fun j hj => absurd hj (by omega)
  · intro x _;simp (disch:=first|exact dd|fail) only [go_sem,seval]
  rintro k ⟨hk,hok⟩
  by_cases hkl : k = l.length
  · subst hkl
    have hyes:=okPl_of (l:=l) hok
    simp (disch:=first|exact dd|fail) only [go_sem,seval,tmD]
    unfold rpp
    rw [hyes]
    exact LeV.tup (LesV.cons (LeV.ro (pV_len l).symm fun j hj => Le.refl _) (LesV.refl _))
  have hp1 : tmR l k = tmC (l.getD k tm0):=rfl
  have hv0:=pV_at (l:=l) (i:=k) (by omega)
  have hr:=ref_RatParse (l.getD k tm0).2 (ht _ (getD_mem' l k _ (by omega)))
  have hk0 : okT l k = ((match rpO (l.getD k tm0).2 with | some q => decide (q.num ≠ 0) | none => false) && (decide (k = 0) || decide (mC (l.getD (k - 1) tm0).1 (l.getD k tm0).1 < 0))):=by
    unfold okT;rfl
  have hpk : 0 < k → tmR l ((k : Int) - 1).toNat = tmC (l.getD (k - 1) tm0):=fun h => by rw [show ((k : Int) - 1).toNat = k - 1 by omega];rfl
  have hC:=ref_mnCmp (l.getD (k - 1) tm0).1 (l.getD k tm0).1
  generalize l.getD k tm0 = t at *
  generalize l.getD (k - 1) tm0 = t' at *
  simp (disch:=first|exact dd|fail) only [go_sem,seval,tmD,hp1,tmC]
  have no : okT l k = false → LeV (.tup [.nils, .bool false]) (rpp l):=fun h => by
    have hno:=okPl_no (l:=l) (i:=k) (by omega) h
    unfold rpp
    rw [hno]
    exact LeV.refl _
  cases hq : rpO t.2 with
  | none =>
    rw [hq] at hk0
    simp only [rrD,hq] at hr
    refine cA hr ?_
    simp (disch:=first|exact dd|fail) only [go_sem,seval]
    exact no (by rw [hk0];rfl)
  | some q =>
    rw [hq] at hk0
    have hS:=ref_Sign (z:=q.num) (by have:=(rpO_qb hq).1;omega)
    simp only [rrD,hq] at hr
    refine cA hr ?_
    simp (disch:=first|exact dd|fail) only [go_sem,seval,rqD]
    refine cA hS ?_
    by_cases hz : q.num = 0
    · have hs : sgI q.num 0 = 0:=by rw [hz];exact sgI_eq 0
      simp (disch:=first|exact dd|fail) only [go_sem,seval,hs]
      exact no (by rw [hk0];simp [hz])
    have hs : (sgI q.num 0 == 0) = false:=by
      have:=sgI_cases q.num 0
      rw [beq_eq_false_iff_ne]
      omega
    have fin : k < l.length → ∀ i,i < k + 1 → Le (if i < k then rtR (pV l) i else [D.agg [.int .u8 t.1.1.toNat, .int .u8 t.1.2.1.toNat, .int .u8 t.1.2.2.toNat, .bool (decide (q.num < 0)),nD q.num.natAbs,nD q.den]].getD (i - k) .unk) (rtR (pV l) i):=fun _ i hi => by
      by_cases h : i < k
      · rw [if_pos h]
        exact Le.refl _
      · obtain rfl : i = k:=by omega
        have e : rtR (pV l) i = rtC (t.1,q):=by unfold rtR;rw [hv0,hq];rfl
        rw [if_neg h,e,Nat.sub_self]
        exact Le.refl _
    by_cases h0 : k = 0
    · subst h0
      have hk1 : okT l 0 = true:=by rw [hk0];simp [hz]
      simp (disch:=first|exact dd|fail) only [go_sem,seval,hs,hp1,tmC]
      refine ⟨.inl trivial, .inr trivial,1,⟨by omega,fun j hj => by rw [show j = 0 by omega];exact hk1⟩,by show l.length - 1 < l.length - 0;omega, ?_, ?_⟩
      · simp (disch:=first|exact dd|fail) only [go_sem,seval,tmD]
        try exact LeV.refl _
      · simp (disch:=first|exact dd|fail) only [go_sem,seval]
        exact fin (by omega)
    have hpk:=hpk (by omega)
    simp (disch:=first|exact dd|fail) only [go_sem,seval,hs,hpk,hp1,tmC]
    refine cA hC ?_
    by_cases hm : mC t'.1 t.1 < 0
    · have hm2 : decide (0 ≤ mC t'.1 t.1) = false:=decide_eq_false (by omega)
      have hk1 : okT l k = true:=by rw [hk0];simp [hz,hm]
      simp (disch:=first|exact dd|fail) only [go_sem,seval,hm,hm2,hp1,tmC]
      refine ⟨.inl trivial, .inr trivial,by omega,by omega,k + 1,⟨by omega,fun j hj => ?_⟩,by show l.length - (k + 1) < l.length - k;omega, ?_, ?_⟩
      · rcases Nat.lt_or_ge j k with h | h
        · exact hok j h
        · rw [show j = k by omega];exact hk1
      · simp (disch:=first|exact dd|fail) only [go_sem,seval,tmD]
        try exact LeV.refl _
      · simp (disch:=first|exact dd|fail) only [go_sem,seval]
        exact fin (by omega)
    · simp (disch:=first|exact dd|fail) only [go_sem,seval,hm]
      exact no (by rw [hk0];simp [hz,hm,h0])
def mxF (f : Pt → Nat) (l : List Pt) : Nat:=l.foldl (fun n t => max n (f t)) 0
theorem mxF_take (f : Pt → Nat) {l : List Pt} {i : Nat} (hi : i < l.length) : max (mxF f (l.take i)) (f (l.getD i pt0)) = mxF f (l.take (i + 1)):=by
  unfold mxF
  rw [List.take_succ_eq_append_getElem hi,List.foldl_append,List.getD_eq_getElem?_getD,List.getElem?_eq_getElem hi]
  rfl
theorem mxF_le {f : Pt → Nat} {l : List Pt} {m : Nat} (h : ∀ t,f t ≤ m) : mxF f l ≤ m:=by
  have : ∀ (l : List Pt) (a : Nat),a ≤ m → l.foldl (fun n t => max n (f t)) a ≤ m:=fun l => by
    induction l with
    | nil => intro a ha;exact ha
    | cons t l ih => intro a ha;exact ih _ (Nat.max_le.2 ⟨ha,h t⟩)
  exact this l 0 (Nat.zero_le _)
def varM (m : Mn) : Nat:=vars m.1.toNat m.2.1.toNat m.2.2.toNat
theorem varM_le (m : Mn) : varM m ≤ 3:=by unfold varM vars;split;omega;split;omega;split <;> omega
theorem mn_Vars (m : Mn) : C E 131 [mD m] (.int .i64 (varM m)):=mono_Vars
theorem ref_mnVars (m : Mn) : C E 85 [mD m] (.int .i64 (varM m)):=ref_MonoVars
def pVars (l : List Pt) : Nat:=mxF (fun t => varM t.1) l
theorem pVars_le (l : List Pt) : pVars l ≤ 3:=mxF_le fun t => varM_le t.1
theorem poly_Vars {l : List Pt} (hl : l.length < 1073741824) : C E 89 [pD l] (.int .i64 (pVars l)):=by
  refine CG_intro Tryz.func89 rfl (by kernel_rfl) rfl (by kernel_rfl) (by kernel_rfl) rfl ?_
  simp (disch:=first|exact dd|fail) only [go_sem,seval,pD,ptsD]
  refine AL.of (fun i : Nat => i ≤ l.length) (fun i => l.length - i) (fun i => [(3, .int .i64 (pVars (l.take i))),(7,ptsD l),(8, .int .i64 l.length),(9, .int .i64 i)]) (fun _ => []) 0 (Nat.zero_le _) ?_ ?_ ?_ ?_
  · simp (disch:=first|exact dd|fail) only [go_sem,seval,ptsD]
    try exact LeV.refl _
  · simp (disch:=first|exact dd|fail) only [go_sem,seval]
  · intro x _;simp (disch:=first|exact dd|fail) only [go_sem,seval]
  intro i hi
  by_cases hil : i = l.length
  · simp (disch:=first|exact dd|fail) only [go_sem,seval,ptsD,hil,List.take_length]
  · have hp : ptR l i = ptC (l.getD i pt0):=rfl
    have hv:=mn_Vars (l.getD i pt0).1
    have ht:=mxF_take (fun t => varM t.1) (l:=l) (i:=i) (by omega)
    have hle:=pVars_le (l.take i)
    have hle2:=varM_le (l.getD i pt0).1
    have ht2 : max ((pVars (l.take i) : Nat) : Int) ((varM (l.getD i pt0).1 : Nat) : Int) = ((pVars (l.take (i + 1)) : Nat) : Int):=by
      have : max (pVars (l.take i)) (varM (l.getD i pt0).1) = pVars (l.take (i + 1)):=ht
      omega
    generalize l.getD i pt0 = t at *
    simp (disch:=first|exact dd|fail) only [go_sem,seval,ptsD,hp,ptC]
    refine cA hv ?_
    simp (disch:=first|exact dd|fail) only [go_sem,seval,ht2]
    refine ⟨i + 1,by show i + 1 ≤ l.length;omega,by show l.length - (i + 1) < l.length - i;omega, ?_, ?_⟩
    · simp (disch:=first|exact dd|fail) only [go_sem,seval,ptsD]
      try exact LeV.refl _
    · simp (disch:=first|exact dd|fail) only [go_sem,seval]
theorem ref_PolyVars {l : List Pt} (hl : l.length < 1073741824) : C E 43 [rtD l] (.int .i64 (pVars l)):=by
  refine CG_intro Tryz.func43 rfl (by kernel_rfl) rfl (by kernel_rfl) (by kernel_rfl) rfl ?_
  simp (disch:=first|exact dd|fail) only [go_sem,seval,rtD]
  refine AL.of (fun i : Nat => i ≤ l.length) (fun i => l.length - i) (fun i => [(0,rtD l),(3, .int .i64 (pVars (l.take i))),(4, .int .i64 i)]) (fun _ => []) 0 (Nat.zero_le _) ?_ ?_ ?_ ?_
  · simp (disch:=first|exact dd|fail) only [go_sem,seval,rtD]
    try exact LeV.refl _
  · simp (disch:=first|exact dd|fail) only [go_sem,seval]
  · intro x _;simp (disch:=first|exact dd|fail) only [go_sem,seval]
  intro i hi
  by_cases hil : i = l.length
  · simp (disch:=first|exact dd|fail) only [go_sem,seval,rtD,hil,List.take_length]
  · have hp : rtR l i = rtC (l.getD i pt0):=rfl
    have hv:=ref_mnVars (l.getD i pt0).1
    have ht:=mxF_take (fun t => varM t.1) (l:=l) (i:=i) (by omega)
    have hle:=pVars_le (l.take i)
    have hle2:=varM_le (l.getD i pt0).1
    have ht2 : max ((pVars (l.take i) : Nat) : Int) ((varM (l.getD i pt0).1 : Nat) : Int) = ((pVars (l.take (i + 1)) : Nat) : Int):=by
      have : max (pVars (l.take i)) (varM (l.getD i pt0).1) = pVars (l.take (i + 1)):=ht
      omega
    generalize l.getD i pt0 = t at *
    simp (disch:=first|exact dd|fail) only [go_sem,seval,rtD,hp,rtC]
    refine cA hv ?_
    simp (disch:=first|exact dd|fail) only [go_sem,seval,ht2]
    refine ⟨i + 1,by show i + 1 ≤ l.length;omega,by show l.length - (i + 1) < l.length - i;omega, ?_, ?_⟩
    · simp (disch:=first|exact dd|fail) only [go_sem,seval,rtD]
      try exact LeV.refl _
    · simp (disch:=first|exact dd|fail) only [go_sem,seval]
def lowM (m : Mn) : Bool:=decide (m.1.toNat ≤ 8) && decide (m.2.1.toNat ≤ 8) && decide (m.2.2.toNat ≤ 8)
def lowB (l : List Tm) : Bool:=l.all fun t => lowM t.1
theorem claim_low {l : List Tm} (hl : l.length < 1073741824) : C E 73 [tmD l] (.bool (lowB l)):=by
  refine CG_intro Tryz.func73 rfl (by kernel_rfl) rfl (by kernel_rfl) (by kernel_rfl) rfl ?_
  simp (disch:=first|exact dd|fail) only [go_sem,seval,tmD]
  refine AL.of (fun i : Nat => i ≤ l.length ∧ ∀ j,j < i → lowM (l.getD j tm0).1 = true) (fun i => l.length - i) (fun i => [(7,tmD l),(8, .int .i64 l.length),(9, .int .i64 i)]) (fun _ => []) 0 ⟨Nat.zero_le _,fun j hj => absurd hj (by omega)⟩ ?_ ?_ ?_ ?_
  · simp (disch:=first|exact dd|fail) only [go_sem,seval,tmD]
    try exact LeV.refl _
  · simp (disch:=first|exact dd|fail) only [go_sem,seval]
  · intro x _;simp (disch:=first|exact dd|fail) only [go_sem,seval]
  rintro i ⟨hi,hok⟩
  by_cases hil : i = l.length
  · have hyes : lowB l = true:=by
      unfold lowB
      rw [List.all_eq_true]
      intro t ht
      obtain ⟨j,hj,rfl⟩:=List.mem_iff_getElem.1 ht
      have:=hok j (by omega)
      rw [List.getD_eq_getElem?_getD,List.getElem?_eq_getElem hj] at this
      exact this
    simp (disch:=first|exact dd|fail) only [go_sem,seval,tmD,hil,hyes]
  · have hp : tmR l i = tmC (l.getD i tm0):=rfl
    have hno : lowM (l.getD i tm0).1 = false → lowB l = false:=fun h => by
      unfold lowB
      rw [List.all_eq_false]
      exact ⟨_,getD_mem' l i tm0 (by omega),by rw [h];simp⟩
    have hyes : lowM (l.getD i tm0).1 = true → i + 1 ≤ l.length ∧ ∀ j,j < i + 1 → lowM (l.getD j tm0).1 = true:=fun h => ⟨by omega,fun j hj => by
      rcases Nat.lt_or_ge j i with h2 | h2
      · exact hok j h2
      · rw [show j = i by omega];exact h⟩
    generalize l.getD i tm0 = t at *
    obtain ⟨⟨a,b,c⟩,s⟩:=t
    simp only [lowM] at hno hyes
    simp (disch:=first|exact dd|fail) only [go_sem,seval,tmD,hp,tmC]
    refine AL.step ?_
    by_cases ha : a.toNat ≤ 8
    · simp (disch:=first|exact dd|fail) only [go_sem,seval]
      refine AL.step ?_
      by_cases hb : b.toNat ≤ 8
      · simp (disch:=first|exact dd|fail) only [go_sem,seval]
        refine AL.step ?_
        by_cases hc : c.toNat ≤ 8
        · simp (disch:=first|exact dd|fail) only [go_sem,seval]
          refine AL.step ?_
          simp (disch:=first|exact dd|fail) only [go_sem,seval]
          refine ⟨i + 1,hyes (by simp [ha,hb,hc]),by show l.length - (i + 1) < l.length - i;omega, ?_, ?_⟩
          · simp (disch:=first|exact dd|fail) only [go_sem,seval,tmD]
            try exact LeV.refl _
          · simp (disch:=first|exact dd|fail) only [go_sem,seval]
        · rw [hno (by simp [hc])]
          simp (disch:=first|exact dd|fail) only [go_sem,seval]
      · rw [hno (by simp [hb])]
        simp (disch:=first|exact dd|fail) only [go_sem,seval]
    · rw [hno (by simp [ha])]
      simp (disch:=first|exact dd|fail) only [go_sem,seval]
def exM (k : Nat) (m : Mn) : Nat:=if k = 0 then m.1.toNat else if k = 1 then m.2.1.toNat else m.2.2.toNat
theorem exM_lt (k : Nat) (m : Mn) : exM k m ≤ 255:=by
  have h1:=UInt8.toNat_lt m.1
  have h2:=UInt8.toNat_lt m.2.1
  have h3:=UInt8.toNat_lt m.2.2
  unfold exM;split;omega;split <;> omega
def topX (k : Nat) (l : List Pt) : Nat:=mxF (fun t => exM k t.1) l
theorem ref_Top {l : List Pt} (hl : l.length < 1073741824) {k : Nat} (hk : k < 3) : C E 84 [rtD l, .int .i64 k] (.int .i64 (topX k l)):=by
  refine CG_intro Tryz.func84 rfl (by kernel_rfl) rfl (by kernel_rfl) (by kernel_rfl) rfl ?_
  simp (disch:=first|exact dd|fail) only [go_sem,seval,rtD]
  refine AL.of (fun i : Nat => i ≤ l.length) (fun i => l.length - i) (fun i => [(0,rtD l),(1, .int .i64 k),(5, .int .i64 (topX k (l.take i))),(6, .int .i64 i)]) (fun _ => []) 0 (Nat.zero_le _) ?_ ?_ ?_ ?_
  · simp (disch:=first|exact dd|fail) only [go_sem,seval,rtD]
    exact LeV.refl _
  · simp (disch:=first|exact dd|fail) only [go_sem,seval]
  · intro x _;simp (disch:=first|exact dd|fail) only [go_sem,seval]
  intro i hi
  by_cases hil : i = l.length
  · simp (disch:=first|exact dd|fail) only [go_sem,seval,rtD,hil,List.take_length]
  · have hp : rtR l i = rtC (l.getD i pt0):=rfl
    have ht:=mxF_take (fun t => exM k t.1) (l:=l) (i:=i) (by omega)
    have hle:=mxF_le (f:=fun t => exM k t.1) (l:=l.take i) (m:=255) fun t => exM_lt k t.1
    have hle2:=exM_lt k (l.getD i pt0).1
    have ht2 : max ((topX k (l.take i) : Nat) : Int) ((exM k (l.getD i pt0).1 : Nat) : Int) = ((topX k (l.take (i + 1)) : Nat) : Int):=by
      have : max (topX k (l.take i)) (exM k (l.getD i pt0).1) = topX k (l.take (i + 1)):=ht
      omega
    have hle : topX k (l.take i) ≤ 255:=hle
    generalize l.getD i pt0 = t at *
    obtain ⟨⟨a,b,c⟩,q⟩:=t
    have a1:=UInt8.toNat_lt a
    have a2:=UInt8.toNat_lt b
    have a3:=UInt8.toNat_lt c
    obtain rfl | rfl | rfl : k = 0 ∨ k = 1 ∨ k = 2:=by omega
    all_goals
      simp only [exM,Nat.one_ne_zero,if_true,if_false,Nat.reduceEqDiff] at ht2
      simp (disch:=first|exact dd|fail) only [go_sem,seval,rtD,hp,rtC,ht2]
      refine ⟨i + 1,by show i + 1 ≤ l.length;omega,by show l.length - (i + 1) < l.length - i;omega, ?_, ?_⟩
      · simp (disch:=first|exact dd|fail) only [go_sem,seval,rtD]
        try exact LeV.refl _
      · simp (disch:=first|exact dd|fail) only [go_sem,seval]
theorem sb_lies : liesAt E.P E.P.depth 116 (2 / E.P.cellsOf 116) 0 116 1 = true:=by kernel_rfl
theorem byte_cells : E.P.cellsOf 5 = 1:=by kernel_rfl
def sbZ : Hp:=[(0, .var true 2 (.agg [.nilp, .nils]) 116)]
def sbR (k v n : Nat) (f : Nat → D) : Hp:=[(k, .row false v false 1 n f 5),(0, .var true 2 (.agg [.ad 0 0, .sl k v 0 n]) 116)]
def sbU (v n : Nat) (f : Nat → D) : Hp:=[(0, .var true 2 (.agg [.ad 0 0, .sl 1 v 0 n]) 116),(1, .row false v false 1 n f 5)]
theorem copy0 : CG E 96 [.ad 0 0] sbZ (.tup []) [(0, .var true 2 (.agg [.ad 0 0, .nils]) 116)]:=by
  refine CG_intro Tryz.func96 rfl (by kernel_rfl) rfl (by kernel_rfl) (by kernel_rfl) rfl ?_
  simp (disch:=first|exact dd|fail) only [go_sem,seval,sbZ]
  refine callI ⟨_,rfl,by kernel_rfl,by kernel_rfl,by kernel_rfl,by kernel_rfl⟩ ?_
  simp (disch:=first|exact dd|fail) only [go_sem,seval,sb_lies]
theorem copy1 (v n : Nat) (f : Nat → D) : CG E 96 [.ad 0 0] (sbU v n f) (.tup []) (sbU v n f):=by
  refine CG_intro Tryz.func96 rfl (by kernel_rfl) rfl (by kernel_rfl) (by kernel_rfl) rfl ?_
  simp (disch:=first|exact dd|fail) only [go_sem,seval,sbU]
  exact fun _ _ => trivial
theorem sbWrite0 (l : List UInt8) (hl : l.length < 1099511627776) : CG E 50 [.ad 0 0, .str l] sbZ (.tup [.int .i64 l.length, .unk]) (sbR 2 0 l.length (bR l)):=by
  refine CG_intro Tryz.func50 rfl (by kernel_rfl) rfl (by kernel_rfl) (by kernel_rfl) rfl ?_
  simp (disch:=first|exact dd|fail) only [go_sem,seval,sbZ]
  refine callG [0] copy0 rfl rfl (LesV.refl _) rfl ?_
  simp (disch:=first|exact dd|fail) only [go_sem,seval,sbR]
  refine ⟨.inr trivial, .inr trivial,by omega,by omega, ?_⟩
  exact fun _ _ => Le.refl _
theorem bR_cat (l m : List UInt8) (j : Nat) : (if j < l.length then bR l j else bR m (j - l.length)) = bR (l ++ m) j:=by
  unfold bR
  by_cases h : j < l.length
  · rw [if_pos h,List.getD_eq_getElem?_getD,List.getD_eq_getElem?_getD,List.getElem?_append_left h]
  · rw [if_neg h,List.getD_eq_getElem?_getD,List.getD_eq_getElem?_getD,List.getElem?_append_right (by omega)]
theorem sbWrite1 (v : Nat) (m l : List UInt8) (hl : m.length + l.length < 1099511627776) : CG E 50 [.ad 0 0, .str l] (sbU v m.length (bR m)) (.tup [.int .i64 l.length, .unk]) (sbU (v + 1) (m.length + l.length) (bR (m ++ l))):=by
  refine CG_intro Tryz.func50 rfl (by kernel_rfl) rfl (by kernel_rfl) (by kernel_rfl) rfl ?_
  simp (disch:=first|exact dd|fail) only [go_sem,seval,sbU]
  refine callG [0,1] (copy1 v m.length (bR m)) rfl rfl (LesV.refl _) rfl ?_
  simp (disch:=first|exact dd|fail) only [go_sem,seval,sbU]
  refine ⟨.inr trivial, .inr trivial,by omega,by omega, ?_⟩
  intro i hi
  rw [← bR_cat]
  exact Le.refl _
theorem sbByte1 (v : Nat) (m : List UInt8) (x : UInt8) (hl : m.length + 1 < 1099511627776) : CG E 52 [.ad 0 0, .int .u8 x.toNat] (sbU v m.length (bR m)) .unk (sbU (v + 1) (m.length + 1) (bR (m ++ [x]))):=by
  refine CG_intro Tryz.func52 rfl (by kernel_rfl) rfl (by kernel_rfl) (by kernel_rfl) rfl ?_
  simp (disch:=first|exact dd|fail) only [go_sem,seval,sbU]
  refine callG [0,1] (copy1 v m.length (bR m)) rfl rfl (LesV.refl _) rfl ?_
  simp (disch:=first|exact dd|fail) only [go_sem,seval,sbU]
  refine ⟨.inl trivial, .inr trivial,by omega,by omega, ?_⟩
  intro i hi
  rw [← bR_cat]
  by_cases h : i < m.length
  · rw [if_pos h,if_pos h]
    exact Le.refl _
  · rw [if_neg h,if_neg h,show i - m.length = 0 by omega]
    exact Le.refl _
theorem sbString (v : Nat) (l : List UInt8) (hl : 0 < l.length ∧ l.length < 1099511627776) : CG E 56 [.ad 0 0] (sbU v l.length (bR l)) (.str l) [(0, .var true 2 (.agg [.ad 0 0, .sl 1 v 0 l.length]) 116),(1, .row false (v + 1) false 1 0 (bR l) 5)]:=by
  refine CG_intro Tryz.func56 rfl (by kernel_rfl) rfl (by kernel_rfl) (by kernel_rfl) rfl ?_
  simp (disch:=first|exact dd|fail) only [go_sem,seval,sbU,sdD,hl.1,true_and,and_true]
  refine ⟨rfl,rfl,by decide,byte_cells,by omega,Int.le_refl _,by omega,l,rfl,fun i hi => rfl, ?_⟩
  simp (disch:=first|exact dd|fail) only [go_sem,seval]
  exact fun _ _ => trivial
theorem isOk_one : okNat [49] = true:=by decide
theorem rp_one : rpO [49] = some ((1 : Int) : Rat):=by
  unfold rpO
  have e : ¬ 0 ≤ Lib.indexByte [49] 47:=by decide
  rw [if_neg e]
  have : zpO [49] = some 1:=by
    unfold zpO
    rw [if_neg (by decide),if_pos isOk_one]
    rfl
  rw [this];rfl
theorem dyq_int (v : Int) : dyq (v : Rat):=by
  unfold dyq
  rw [Rat.den_intCast,tz_odd rfl]
  rfl
theorem whole_Neg {z : Int} (hz : zb z < 1000000000) : C E 175 [zD z] (zD (-z)):=by
  refine CG_intro Tryz.func175 rfl (by kernel_rfl) rfl (by kernel_rfl) (by kernel_rfl) rfl ?_
  have e : mkZ (!decide (z < 0)) z.natAbs = -z:=by
    unfold mkZ
    by_cases h : z < 0
    · rw [decide_eq_true h,if_neg (by decide)];omega
    · rw [decide_eq_false h,if_pos (by decide)];omega
  have hz' : nb z.natAbs < 1000000000:=hz
  have hF:=whole_From (!decide (z < 0)) (n:=z.natAbs) (by omega)
  rw [e] at hF
  simp (disch:=first|exact dd|fail) only [go_sem,seval]
  refine callC hF ?_ rfl ?_
  · simp (disch:=first|exact dd|fail) only [go_sem,seval,natD_u32s]
    try exact LesV.refl _
  simp (disch:=first|exact dd|fail) only [go_sem,seval]
  try exact LeV.refl _
theorem rp_two : rpO [50] = some ((2 : Int) : Rat):=by
  unfold rpO
  rw [if_neg (by decide)]
  have : zpO [50] = some 2:=by
    unfold zpO
    rw [if_neg (by decide),if_pos (by decide)]
    rfl
  rw [this];rfl
theorem side_int {a b : List UInt8} {x y : Int} (ha : rpO a = some (x : Rat)) (hb : rpO b = some (y : Rat)) (h : x < y) : sideR a b = (((x : Rat),(y : Rat)),0):=by
  have h1 : ¬ (y : Rat) < (x : Rat):=by rw [Rat.intCast_lt_intCast];omega
  have h2 : ¬ (y : Rat) ≤ (x : Rat):=by rw [Rat.intCast_le_intCast];omega
  have e1 : spR a b = (((x : Rat),(y : Rat)),0):=by
    unfold spR
    rw [ha,hb]
    simp only [h1,if_false]
  unfold sideR
  rw [e1]
  simp only [ne_eq,not_true_eq_false,if_false,h2,dyq_int,and_self,if_true]
theorem qb_small (k : Int) (h : k.natAbs ≤ 2) : qb 40000000 (k : Rat):=by
  have h1 : nb k.natAbs ≤ 1:=nb_lt.2 (by omega)
  have h2 : nb 1 ≤ 1:=nb_lt.2 (by omega)
  exact ⟨by show nb _ ≤ _;rw [Rat.num_intCast];omega,by rw [Rat.den_intCast];omega⟩
theorem book_SamePairs (l : List (Txt × Txt)) (hl : l.length < 1073741824) : C E 29 [txD l,txD l] (.bool true):=by
  refine CG_intro Tryz.func29 rfl (by kernel_rfl) rfl (by kernel_rfl) (by kernel_rfl) rfl ?_
  simp (disch:=first|exact dd|fail) only [go_sem,seval,txD]
  refine AL.of (fun i : Nat => i ≤ l.length) (fun i => l.length - i) (fun i => [(0,txD l),(1,txD l),(5, .int .i64 i)]) (fun _ => []) 0 (Nat.zero_le _) ?_ ?_ ?_ ?_
  · simp (disch:=first|exact dd|fail) only [go_sem,seval,txD]
    try exact LeV.refl _
  · simp (disch:=first|exact dd|fail) only [go_sem,seval]
  · intro x _;simp (disch:=first|exact dd|fail) only [go_sem,seval]
  intro i hi
  by_cases hil : i = l.length
  · subst hil
    simp (disch:=first|exact dd|fail) only [go_sem,seval,txD]
  · have hil' : i < l.length:=by omega
    have hp : txR l i = .agg [.str (l.getD i ([],[])).1, .str (l.getD i ([],[])).2]:=rfl
    generalize l.getD i ([],[]) = p at *
    simp (disch:=first|exact dd|fail) only [go_sem,seval,txD,hp]
    refine ⟨i + 1,hil',by show l.length - (i + 1) < l.length - i;omega, ?_, ?_⟩
    · simp (disch:=first|exact dd|fail) only [go_sem,seval,txD]
      try exact LeV_int (by omega)
    · simp (disch:=first|exact dd|fail) only [go_sem,seval]
def sB (p : Rat × Rat) : List UInt8:=qB p.1 ++ qB p.2
def bxBy (l : List (Rat × Rat)) : List UInt8:=l.flatMap sB
theorem vput_pos (v : Nat) : 1 ≤ (vput v).length:=by
  by_cases h : v < 128
  · rw [vput_lt h];simp
  · rw [vput_ge h];simp
theorem zB_pos_len (z : Int) : 1 ≤ (zB z).length:=by
  unfold zB
  rw [List.length_append]
  have:=vput_pos (2 * nby z.natAbs + if z < 0 then 1 else 0)
  omega
theorem qB_pos (q : Rat) : 1 ≤ (qB q).length:=by
  unfold qB
  rw [List.length_append]
  have:=zB_pos_len q.num
  omega
theorem qB_max {q : Rat} {k : Nat} (hk : k ≤ 40000000) (hq : qb k q) : (qB q).length ≤ 20 + 8 * k:=by
  have:=qB_len (q:=q) ⟨by have:=hq.1;omega,by have:=hq.2;omega⟩
  have h1:=hq.1
  have h2:=hq.2
  omega
theorem putSpan {p : Rat × Rat} (h1 : qb 40000000 p.1) (h2 : qb 40000000 p.2) : C E 54 [sD p] (.str (sB p)):=by
  refine CG_intro Tryz.func54 rfl (by kernel_rfl) rfl (by kernel_rfl) (by kernel_rfl) rfl ?_
  have g1:=vint_PutRat h1
  have g2:=vint_PutRat h2
  have l1:=qB_max (by omega) h1
  have l2:=qB_max (by omega) h2
  simp (disch:=first|exact dd|fail) only [go_sem,seval,sD]
  refine cL g1 ?_
  simp (disch:=first|exact dd|fail) only [go_sem,seval]
  refine cL g2 ?_
  simp (disch:=first|exact dd|fail) only [go_sem,seval]
  exact LeV.refl _
def sbV (k v : Nat) (m : List UInt8) : Blk:=.var true 2 (.agg [.ad 0 0, .sl k v 0 m.length]) 116
def sbW (v : Nat) (m : List UInt8) : Blk:=.row false v false 1 m.length (bR m) 5
theorem bxBy_take {l : List (Rat × Rat)} {i : Nat} (hi : i < l.length) : bxBy (l.take i) ++ sB (l.getD i (0,0)) = bxBy (l.take (i + 1)):=by
  unfold bxBy
  rw [List.take_succ_eq_append_getElem hi,List.flatMap_append,List.getD_eq_getElem?_getD,List.getElem?_eq_getElem hi]
  simp
theorem sB_max {p : Rat × Rat} (h1 : qb 40000000 p.1) (h2 : qb 40000000 p.2) : (sB p).length ≤ 640000040 ∧ 1 ≤ (sB p).length:=by
  have l1:=qB_max (by omega) h1
  have l2:=qB_max (by omega) h2
  have l3:=qB_pos p.1
  unfold sB
  rw [List.length_append]
  omega
theorem bxBy_len {l : List (Rat × Rat)} (hq : ∀ p ∈ l,qb 40000000 p.1 ∧ qb 40000000 p.2) : (bxBy l).length ≤ 640000040 * l.length ∧ l.length ≤ (bxBy l).length:=by
  induction l with
  | nil => simp [bxBy]
  | cons p l ih =>
    have h1:=ih fun q hq' => hq q (List.mem_cons_of_mem _ hq')
    obtain ⟨h2,h3⟩:=hq p (List.mem_cons_self ..)
    have h4:=sB_max h2 h3
    unfold bxBy at *
    rw [List.flatMap_cons,List.length_append,List.length_cons]
    omega
theorem putBox {l : List (Rat × Rat)} (hq : ∀ p ∈ l,qb 40000000 p.1 ∧ qb 40000000 p.2) (h0 : 0 < l.length) (hl : l.length ≤ 1000) : C E 51 [bxD l] (.str (bxBy l)):=by
  refine CG_intro Tryz.func51 rfl (by kernel_rfl) rfl (by kernel_rfl) (by kernel_rfl) rfl ?_
  simp (disch:=first|exact dd|fail) only [go_sem,seval,bxD]
  refine AL.step ?_
  obtain ⟨a1,a2⟩:=hq (l.getD 0 (0,0)) (getD_mem' l 0 _ h0)
  have hs0:=putSpan a1 a2
  have hs1:=sB_max a1 a2
  simp (disch:=first|exact dd|fail) only [go_sem,seval,pR,sD]
  refine cA hs0 ?_
  simp (disch:=first|exact dd|fail) only [go_sem,seval]
  refine callG [0] (sbWrite0 (sB (l.getD 0 (0,0))) (by omega)) rfl rfl (LesV.refl _) rfl ?_
  simp (disch:=first|exact dd|fail) only [go_sem,seval,sbR]
  have hB:=bxBy_len hq
  have hBt : ∀ i,i ≤ l.length → (bxBy (l.take i)).length ≤ 640000040 * 1000:=fun i hi => by
    have:=(bxBy_len (l:=l.take i) fun p hp => hq p (List.mem_of_mem_take hp)).1
    rw [List.length_take,Nat.min_eq_left hi] at this
    omega
  have hf : bxBy (l.take 1) = sB (l.getD 0 (0,0)):=by
    have:=bxBy_take h0
    simpa [bxBy] using this.symm
  refine AL.of (fun i : Nat => i < l.length) (fun i => l.length - i) (fun i => [(3, .ad 0 0),(6,bxD l),(7, .int .i64 l.length),(8, .int .i64 ((i + 1 : Nat) : Int))]) (fun i => [(0,sbV 4 i (bxBy (l.take (i + 1)))),(4,sbW i (bxBy (l.take (i + 1))))]) 0 h0 ?_ ?_ ?_ ?_
  · simp (disch:=first|exact dd|fail) only [go_sem,seval,bxD]
    try exact ⟨LeV.refl _,LeV.refl _⟩
  · simp (disch:=first|exact dd|fail) only [go_sem,seval,sbV,sbW,hf]
    try exact fun _ _ => trivial
  · intro x _;simp (disch:=first|exact dd|fail) only [go_sem,seval,sbV,sbW]
  intro i hi
  by_cases hil : i + 1 = l.length
  · skip
    simp (disch:=first|exact dd|fail) only [go_sem,seval,sbV,sbW,hil,List.take_length]
    refine callG [0,4] (sbString i (bxBy l) (by omega)) rfl rfl (LesV.refl _) rfl ?_
    simp (disch:=first|exact dd|fail) only [go_sem,seval]
  · obtain ⟨a1,a2⟩:=hq (l.getD (i + 1) (0,0)) (getD_mem' l (i + 1) _ (by omega))
    have hs0:=putSpan a1 a2
    have hs1:=sB_max a1 a2
    have hb:=hBt (i + 1) (by omega)
    have hb2:=bxBy_take (l:=l) (i:=i + 1) (by omega)
    simp (disch:=first|exact dd|fail) only [go_sem,seval,sbV,sbW,bxD,pR,sD]
    refine cA hs0 ?_
    simp (disch:=first|exact dd|fail) only [go_sem,seval]
    refine callG [0,4] (sbWrite1 i (bxBy (l.take (i + 1))) (sB (l.getD (i + 1) (0,0))) (by omega)) rfl rfl (LesV.refl _) rfl ?_
    simp (disch:=first|exact dd|fail) only [go_sem,seval,sbU]
    have hlen : (bxBy (l.take (i + 1 + 1))).length = (bxBy (l.take (i + 1))).length + (sB (l.getD (i + 1) (0,0))).length:=by rw [← hb2,List.length_append]
    refine ⟨i + 1,by show i + 1 < l.length;omega,by show l.length - (i + 1) < l.length - i;omega, ?_, ?_⟩
    · simp (disch:=first|exact dd|fail) only [go_sem,seval]
      try exact LeV.refl _
    · simp (disch:=first|exact dd|fail) only [go_sem,seval,hb2,hlen]
      exact fun _ _ => trivial
end Go.Proofs.YtakaojkfipnfcaaGreatDoor.Lv
