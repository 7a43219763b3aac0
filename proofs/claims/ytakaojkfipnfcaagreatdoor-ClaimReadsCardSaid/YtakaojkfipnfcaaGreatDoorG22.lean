/- Polynomials as bytes. Numbers out of bytes: the plain law. The law of a box' texts: the walk. Boxes as bytes: texts; the document's. Reading bytes: what the readers make, in plain words. The document's quotients: RatNew. -/
import Derived.Test.YtakaojkfipnfcaaGreatDoorG21
import Derived.Test.YtakaojkfipnfcaaGreatDoorG20
import Derived.Test.YtakaojkfipnfcaaGreatDoorG19
import Derived.Test.YtakaojkfipnfcaaGreatDoorG18
set_option linter.unusedVariables false
set_option linter.unusedSimpArgs false
set_option maxRecDepth 100000
set_option maxHeartbeats 4000000
namespace Go.Proofs.YtakaojkfipnfcaaGreatDoor.Lv
open Go Go.RowKit
def plOk (l : List Tm) : Bool:=okPl l && lowB l
theorem mxF_iff {f : Pt → Nat} {l : List Pt} {m : Nat} : mxF f l ≤ m ↔ ∀ t ∈ l,f t ≤ m:=by
  have : ∀ (l : List Pt) (a : Nat),l.foldl (fun n t => max n (f t)) a ≤ m ↔ a ≤ m ∧ ∀ t ∈ l,f t ≤ m:=fun l => by
    induction l with
    | nil => intro a;simp
    | cons t l ih =>
      intro a
      rw [List.foldl_cons,ih,Nat.max_le,List.forall_mem_cons,and_assoc]
  have h:=this l 0
  unfold mxF
  rw [h]
  simp
theorem lowB_iff {l : List Tm} : lowB l = true ↔ topX 0 (pV l) ≤ 8 ∧ topX 1 (pV l) ≤ 8 ∧ topX 2 (pV l) ≤ 8:=by
  unfold topX
  rw [mxF_iff,mxF_iff,mxF_iff]
  unfold lowB pV
  simp only [List.all_eq_true,List.forall_mem_map,lowM,Bool.and_eq_true,decide_eq_true_eq,exM,if_true,if_false,Nat.one_ne_zero,Nat.reduceEqDiff]
  constructor
  · intro h
    exact ⟨fun t ht => (h t ht).1.1,fun t ht => (h t ht).1.2,fun t ht => (h t ht).2⟩
  · rintro ⟨h1,h2,h3⟩ t ht
    exact ⟨⟨h1 t ht,h2 t ht⟩,h3 t ht⟩
def poD (l : List Tm) : D:=.tup [if okPl l = true then rtD (pV l) else .nils, .bool (plOk l)]
theorem r2_polyOk {l : List Tm} (hl : l.length < 1073741824) (ht : ∀ p ∈ l,p.2.length < 9223372036854775808) : C E 42 [tmD l] (poD l):=by
  refine CG_intro Tryz.func42 rfl (by kernel_rfl) rfl (by kernel_rfl) (by kernel_rfl) rfl ?_
  have hP:=ref_PolyParse hl ht
  have hlen:=pV_len l
  have hlow:=lowB_iff (l:=l)
  unfold poD plOk
  by_cases h : okPl l = true
  · simp only [rpp,h,if_true] at hP
    simp (disch:=first|exact dd|fail) only [go_sem,seval]
    refine cA hP ?_
    rw [h]
    simp (disch:=first|exact dd|fail) only [go_sem,seval]
    refine AL.step ?_
    have t0:=ref_Top (l:=pV l) (by omega) (k:=0) (by omega)
    simp (disch:=first|exact dd|fail) only [go_sem,seval]
    refine cA t0 ?_
    by_cases h0 : topX 0 (pV l) ≤ 8
    · simp (disch:=first|exact dd|fail) only [go_sem,seval]
      refine AL.step ?_
      have t1:=ref_Top (l:=pV l) (by omega) (k:=1) (by omega)
      simp (disch:=first|exact dd|fail) only [go_sem,seval]
      refine cA t1 ?_
      by_cases h1 : topX 1 (pV l) ≤ 8
      · simp (disch:=first|exact dd|fail) only [go_sem,seval]
        refine AL.step ?_
        have t2:=ref_Top (l:=pV l) (by omega) (k:=2) (by omega)
        simp (disch:=first|exact dd|fail) only [go_sem,seval]
        refine cA t2 ?_
        by_cases h2 : topX 2 (pV l) ≤ 8
        · have e : lowB l = true:=hlow.2 ⟨h0,h1,h2⟩
          rw [e]
          simp (disch:=first|exact dd|fail) only [go_sem,seval]
          refine AL.step ?_
          simp (disch:=first|exact dd|fail) only [go_sem,seval]
          try exact LeV.refl _
        · have e : lowB l = false:=by
            rw [Bool.eq_false_iff];exact fun hh => h2 (hlow.1 hh).2.2
          rw [e]
          simp (disch:=first|exact dd|fail) only [go_sem,seval]
          refine AL.step ?_
          simp (disch:=first|exact dd|fail) only [go_sem,seval]
          try exact LeV.refl _
      · have e : lowB l = false:=by
          rw [Bool.eq_false_iff];exact fun hh => h1 (hlow.1 hh).2.1
        rw [e]
        simp (disch:=first|exact dd|fail) only [go_sem,seval]
        refine AL.step ?_
        simp (disch:=first|exact dd|fail) only [go_sem,seval]
        try exact LeV.refl _
    · have e : lowB l = false:=by
        rw [Bool.eq_false_iff];exact fun hh => h0 (hlow.1 hh).1
      rw [e]
      simp (disch:=first|exact dd|fail) only [go_sem,seval]
      refine AL.step ?_
      simp (disch:=first|exact dd|fail) only [go_sem,seval]
      try exact LeV.refl _
  · have h : okPl l = false:=by simpa using h
    simp only [rpp,h,Bool.false_eq_true,if_false] at hP
    simp (disch:=first|exact dd|fail) only [go_sem,seval]
    refine cA hP ?_
    rw [h]
    simp (disch:=first|exact dd|fail) only [go_sem,seval]
    refine AL.step ?_
    simp (disch:=first|exact dd|fail) only [go_sem,seval]
    try exact LeV.refl _
def mB (m : Mn) : List UInt8:=[m.1,m.2.1,m.2.2]
def tB (t : Pt) : List UInt8:=mB t.1 ++ qB t.2
def tsB (l : List Pt) : List UInt8:=l.flatMap tB
def plB (l : List Pt) : List UInt8:=vput l.length ++ tsB l
theorem tsB_take {l : List Pt} {i : Nat} (hi : i < l.length) : tsB (l.take i) ++ tB (l.getD i pt0) = tsB (l.take (i + 1)):=by
  unfold tsB
  rw [List.take_succ_eq_append_getElem hi,List.flatMap_append,List.getD_eq_getElem?_getD,List.getElem?_eq_getElem hi]
  simp
theorem tsB_len {l : List Pt} (hq : ∀ p ∈ l,qb 1000000 p.2) : (tsB l).length ≤ 8000030 * l.length:=by
  induction l with
  | nil => simp [tsB]
  | cons p l ih =>
    have h1:=ih fun q hq' => hq q (List.mem_cons_of_mem _ hq')
    have h2:=qB_max (by omega) (hq p (List.mem_cons_self ..))
    have h3 : (tB p).length = 3 + (qB p.2).length:=by
      unfold tB mB
      rw [List.length_append]
      simp only [List.length_cons,List.length_nil]
    unfold tsB at *
    rw [List.flatMap_cons,List.length_append,List.length_cons]
    omega
theorem bstr_m3 (b ver k m : Nat) (z a : Bool) (x y u : UInt8) (h : Hp) : bstr ((b, .row z ver a k m (fun i => [D.int .u8 (x.toNat : Int), .int .u8 (y.toNat : Int), .int .u8 (u.toNat : Int)].getD i .unk)) :: h) (.sl b ver 0 3) = some (.str [x,y,u]):=by
  refine bstr_of (l:=[x,y,u]) (if_pos rfl) rfl fun i hi => ?_
  obtain rfl | rfl | rfl : i = 0 ∨ i = 1 ∨ i = 2:=by omega
  all_goals rfl
theorem bstr_v3 (b n ty : Nat) (x y u : UInt8) (r : List D) (h : Hp) : bstr ((b, .var true n (.agg (.int .u8 (x.toNat : Int) :: .int .u8 (y.toNat : Int) :: .int .u8 (u.toNat : Int) :: r)) ty) :: h) (.vs b 0 1 3) = some (.str [x,y,u]):=by
  have hl : 0 + 3 ≤ (D.int .u8 (x.toNat : Int) :: .int .u8 (y.toNat : Int) :: .int .u8 (u.toNat : Int) :: r).length:=by simp
  simp only [bstr,lookB,if_true,hl,true_and]
  rw [grd,if_pos (fun i hi => by
    obtain rfl | rfl | rfl : i = 0 ∨ i = 1 ∨ i = 2:=by omega
    all_goals rfl)]
  simp [List.range_succ,u8Of]
def pokD (l : List Tm) : D:=.tup [.str (if plOk l = true then plB (pV l) else []), .bool (plOk l)]
theorem pV_qb {l : List Tm} (h : okPl l = true) : ∀ p ∈ pV l,qb 1000000 p.2:=by
  unfold pV
  simp only [List.forall_mem_map]
  intro t ht
  obtain ⟨i,hi,rfl⟩:=List.mem_iff_getElem.1 ht
  unfold okPl at h
  rw [List.all_eq_true] at h
  have h1:=h i (List.mem_range.2 hi)
  unfold okT at h1
  rw [List.getD_eq_getElem?_getD,List.getElem?_eq_getElem hi,Option.getD_some] at h1
  cases hq : rpO l[i].2 with
  | none => rw [hq] at h1;simp at h1
  | some q => exact (rpO_qb hq).mono (by omega)
theorem r2_PutPoly {l : List Pt} (hq : ∀ p ∈ l,qb 1000000 p.2) (hl : l.length ≤ 100000) : C E 58 [rtD l] (.str (plB l)):=by
  refine CG_intro Tryz.func58 rfl (by kernel_rfl) rfl (by kernel_rfl) (by kernel_rfl) rfl ?_
  have hp:=r2_Put l.length (by omega)
  have hvl:=vput_len l.length (by omega)
  have hBt : ∀ i,i ≤ l.length → (tsB (l.take i)).length ≤ 8000030 * 100000:=fun i hi => by
    have:=tsB_len (l:=l.take i) fun p hp => hq p (List.mem_of_mem_take hp)
    rw [List.length_take,Nat.min_eq_left hi] at this
    omega
  simp (disch:=first|exact dd|fail) only [go_sem,seval,rtD]
  refine cA hp ?_
  simp (disch:=first|exact dd|fail) only [go_sem,seval]
  refine AL.of (fun i : Nat => i ≤ l.length) (fun i => l.length - i) (fun i => [(0,rtD l),(3, .str (vput l.length ++ tsB (l.take i))),(4, .int .i64 i)]) (fun _ => []) 0 (Nat.zero_le _) ?_ ?_ ?_ ?_
  · have e : vput l.length ++ tsB (l.take 0) = vput l.length:=by simp [tsB]
    rw [e]
    simp (disch:=first|exact dd|fail) only [go_sem,seval,rtD]
    try exact LeV.refl _
  · simp (disch:=first|exact dd|fail) only [go_sem,seval]
  · intro x _;simp (disch:=first|exact dd|fail) only [go_sem,seval]
  intro i hi
  by_cases hil : i = l.length
  · simp (disch:=first|exact dd|fail) only [go_sem,seval,rtD,hil,List.take_length]
    try exact LeV.refl _
  · have hp1 : rtR l i = rtC (l.getD i pt0):=rfl
    have a1:=hq (l.getD i pt0) (getD_mem' l i _ (by omega))
    have g1:=r2_PutRat (a1.mono (k:=40000000) (by omega))
    have l1:=qB_max (by omega) a1
    have hb:=hBt i hi
    have hb2:=tsB_take (l:=l) (i:=i) (by omega)
    have hb3 : (vput l.length ++ tsB (l.take i)) ++ mB (l.getD i pt0).1 ++ qB (l.getD i pt0).2 = vput l.length ++ tsB (l.take (i + 1)):=by
      rw [← hb2];unfold tB;simp only [List.append_assoc]
    have hml : (mB (l.getD i pt0).1).length = 3:=rfl
    generalize l.getD i pt0 = t at *
    obtain ⟨⟨x,y,z⟩,q⟩:=t
    simp only [mB] at g1 hb3 hml l1
    simp (disch:=first|exact dd|fail) only [go_sem,seval,rtD,hp1,rtC]
    refine AReg_anyL 30 [0,1,2,3,4,5,6,7,8,9,10,11,12,13,14,15,16,17,18,19,20,21,22,23,24,25,26,27,28,29] rfl rfl (by decide +kernel) ?_
    refine AAny_free 0 [1,2,3,4,5,6,7,8,9,10,11,12,13,14,15,16,17,18,19,20,21,22,23,24,25,26,27,28,29] (by decide +kernel) rfl ?_
    refine AI_at _ rfl ?_
    simp (disch:=first|exact dd|fail) only [go_sem,seval,rtD,hp1,rtC,bstr_m3,List.length_append,List.length_cons,List.length_nil,hb3]
    refine AAny_free 1 [2,3,4,5,6,7,8,9,10,11,12,13,14,15,16,17,18,19,20,21,22,23,24,25,26,27,28,29] (by decide +kernel) rfl ?_
    refine AI_at _ rfl ?_
    simp (disch:=first|exact dd|fail) only [go_sem,seval,rtD,hp1,rtC,bstr_m3,List.length_append,List.length_cons,List.length_nil,hb3]
    refine AAny_free 2 [3,4,5,6,7,8,9,10,11,12,13,14,15,16,17,18,19,20,21,22,23,24,25,26,27,28,29] (by decide +kernel) rfl ?_
    refine AI_at _ rfl ?_
    simp (disch:=first|exact dd|fail) only [go_sem,seval,rtD,hp1,rtC,bstr_m3,List.length_append,List.length_cons,List.length_nil,hb3]
    refine AAny_free 3 [4,5,6,7,8,9,10,11,12,13,14,15,16,17,18,19,20,21,22,23,24,25,26,27,28,29] (by decide +kernel) rfl ?_
    refine AI_at _ rfl ?_
    simp (disch:=first|exact dd|fail) only [go_sem,seval,rtD,hp1,rtC,bstr_m3,List.length_append,List.length_cons,List.length_nil,hb3]
    refine AAny_free 4 [5,6,7,8,9,10,11,12,13,14,15,16,17,18,19,20,21,22,23,24,25,26,27,28,29] (by decide +kernel) rfl ?_
    refine AI_at _ rfl ?_
    simp (disch:=first|exact dd|fail) only [go_sem,seval,rtD,hp1,rtC,bstr_m3,List.length_append,List.length_cons,List.length_nil,hb3]
    refine AAny_free 5 [6,7,8,9,10,11,12,13,14,15,16,17,18,19,20,21,22,23,24,25,26,27,28,29] (by decide +kernel) rfl ?_
    refine AI_at _ rfl ?_
    simp (disch:=first|exact dd|fail) only [go_sem,seval,rtD,hp1,rtC,bstr_m3,List.length_append,List.length_cons,List.length_nil,hb3]
    refine AAny_free 6 [7,8,9,10,11,12,13,14,15,16,17,18,19,20,21,22,23,24,25,26,27,28,29] (by decide +kernel) rfl ?_
    refine AI_at _ rfl ?_
    simp (disch:=first|exact dd|fail) only [go_sem,seval,rtD,hp1,rtC,bstr_m3,List.length_append,List.length_cons,List.length_nil,hb3]
    refine AAny_free 7 [8,9,10,11,12,13,14,15,16,17,18,19,20,21,22,23,24,25,26,27,28,29] (by decide +kernel) rfl ?_
    refine AI_at _ rfl ?_
    simp (disch:=first|exact dd|fail) only [go_sem,seval,rtD,hp1,rtC,bstr_m3,List.length_append,List.length_cons,List.length_nil,hb3]
    refine AAny_free 8 [9,10,11,12,13,14,15,16,17,18,19,20,21,22,23,24,25,26,27,28,29] (by decide +kernel) rfl ?_
    refine AI_at _ rfl ?_
    simp (disch:=first|exact dd|fail) only [go_sem,seval,rtD,hp1,rtC,bstr_m3,List.length_append,List.length_cons,List.length_nil,hb3]
    refine AAny_free 9 [10,11,12,13,14,15,16,17,18,19,20,21,22,23,24,25,26,27,28,29] (by decide +kernel) rfl ?_
    refine AI_at _ rfl ?_
    simp (disch:=first|exact dd|fail) only [go_sem,seval,rtD,hp1,rtC,bstr_m3,List.length_append,List.length_cons,List.length_nil,hb3]
    refine AAny_free 10 [11,12,13,14,15,16,17,18,19,20,21,22,23,24,25,26,27,28,29] (by decide +kernel) rfl ?_
    refine AI_at _ rfl ?_
    simp (disch:=first|exact dd|fail) only [go_sem,seval,rtD,hp1,rtC,bstr_m3,List.length_append,List.length_cons,List.length_nil,hb3]
    refine AAny_free 11 [12,13,14,15,16,17,18,19,20,21,22,23,24,25,26,27,28,29] (by decide +kernel) rfl ?_
    refine AI_at _ rfl ?_
    simp (disch:=first|exact dd|fail) only [go_sem,seval,rtD,hp1,rtC,bstr_m3,List.length_append,List.length_cons,List.length_nil,hb3]
    refine AAny_free 12 [13,14,15,16,17,18,19,20,21,22,23,24,25,26,27,28,29] (by decide +kernel) rfl ?_
    refine AI_at _ rfl ?_
    simp (disch:=first|exact dd|fail) only [go_sem,seval,rtD,hp1,rtC,bstr_m3,List.length_append,List.length_cons,List.length_nil,hb3]
    refine AAny_free 13 [14,15,16,17,18,19,20,21,22,23,24,25,26,27,28,29] (by decide +kernel) rfl ?_
    refine AI_at _ rfl ?_
    simp (disch:=first|exact dd|fail) only [go_sem,seval,rtD,hp1,rtC,bstr_m3,List.length_append,List.length_cons,List.length_nil,hb3]
    refine AAny_free 14 [15,16,17,18,19,20,21,22,23,24,25,26,27,28,29] (by decide +kernel) rfl ?_
    refine AI_at _ rfl ?_
    simp (disch:=first|exact dd|fail) only [go_sem,seval,rtD,hp1,rtC,bstr_m3,List.length_append,List.length_cons,List.length_nil,hb3]
    refine AAny_free 15 [16,17,18,19,20,21,22,23,24,25,26,27,28,29] (by decide +kernel) rfl ?_
    refine AI_at _ rfl ?_
    simp (disch:=first|exact dd|fail) only [go_sem,seval,rtD,hp1,rtC,bstr_m3,List.length_append,List.length_cons,List.length_nil,hb3]
    refine AAny_free 16 [17,18,19,20,21,22,23,24,25,26,27,28,29] (by decide +kernel) rfl ?_
    refine AI_at _ rfl ?_
    simp (disch:=first|exact dd|fail) only [go_sem,seval,rtD,hp1,rtC,bstr_m3,List.length_append,List.length_cons,List.length_nil,hb3]
    refine AAny_free 17 [18,19,20,21,22,23,24,25,26,27,28,29] (by decide +kernel) rfl ?_
    refine AI_at _ rfl ?_
    simp (disch:=first|exact dd|fail) only [go_sem,seval,rtD,hp1,rtC,bstr_m3,List.length_append,List.length_cons,List.length_nil,hb3]
    refine AAny_free 18 [19,20,21,22,23,24,25,26,27,28,29] (by decide +kernel) rfl ?_
    refine AI_at _ rfl ?_
    simp (disch:=first|exact dd|fail) only [go_sem,seval,rtD,hp1,rtC,bstr_m3,List.length_append,List.length_cons,List.length_nil,hb3]
    refine AAny_free 22 [19,20,21,23,24,25,26,27,28,29] (by decide +kernel) rfl ?_
    refine AI_at _ rfl ?_
    simp (disch:=first|exact dd|fail) only [go_sem,seval,rtD,hp1,rtC,bstr_m3,List.length_append,List.length_cons,List.length_nil,hb3]
    refine AAny_free 23 [19,20,21,24,25,26,27,28,29] (by decide +kernel) rfl ?_
    refine AI_at _ rfl ?_
    simp (disch:=first|exact dd|fail) only [go_sem,seval,rtD,hp1,rtC,bstr_m3,List.length_append,List.length_cons,List.length_nil,hb3]
    refine AAny_free 24 [19,20,21,25,26,27,28,29] (by decide +kernel) rfl ?_
    refine AI_at _ rfl ?_
    simp (disch:=first|exact dd|fail) only [go_sem,seval,rtD,hp1,rtC,bstr_m3,List.length_append,List.length_cons,List.length_nil,hb3]
    refine AAny_free 25 [19,20,21,26,27,28,29] (by decide +kernel) rfl ?_
    refine AI_at _ rfl ?_
    simp (disch:=first|exact dd|fail) only [go_sem,seval,rtD,hp1,rtC,bstr_m3,List.length_append,List.length_cons,List.length_nil,hb3]
    refine AAny_free 26 [19,20,21,27,28,29] (by decide +kernel) rfl ?_
    refine AI_at _ rfl ?_
    simp (disch:=first|exact dd|fail) only [go_sem,seval,rtD,hp1,rtC,bstr_m3,List.length_append,List.length_cons,List.length_nil,hb3]
    refine AAny_step [(19,[20,21,27,28,29]),(27,[19,20,21,28,29])] (by decide +kernel) rfl ?_
    refine forall_more ?_ ?_
    · refine AI_at _ rfl ?_
      simp (disch:=first|exact dd|fail) only [go_sem,seval,rtD,hp1,rtC,bstr_m3,List.length_append,List.length_cons,List.length_nil,hb3]
      refine AAny_free 20 [21,27,28,29] (by decide +kernel) rfl ?_
      refine AI_at _ rfl ?_
      simp (disch:=first|exact dd|fail) only [go_sem,seval,rtD,hp1,rtC,bstr_m3,List.length_append,List.length_cons,List.length_nil,hb3]
      refine AAny_free 21 [27,28,29] (by decide +kernel) rfl ?_
      refine AI_at _ rfl ?_
      simp (disch:=first|exact dd|fail) only [go_sem,seval,rtD,hp1,rtC,bstr_m3,List.length_append,List.length_cons,List.length_nil,hb3]
      refine AAny_free 27 [28,29] (by decide +kernel) rfl ?_
      refine AI_at _ rfl ?_
      simp (disch:=first|exact dd|fail) only [go_sem,seval,rtD,hp1,rtC,bstr_m3,List.length_append,List.length_cons,List.length_nil,hb3]
      refine cA g1 ?_
      simp (disch:=first|exact dd|fail) only [go_sem,seval]
      refine AAny_free 28 [29] (by decide +kernel) rfl ?_
      refine AI_at _ rfl ?_
      simp (disch:=first|exact dd|fail) only [go_sem,seval,rtD,hp1,rtC,bstr_m3,List.length_append,List.length_cons,List.length_nil,hb3]
      refine AAny_free 29 [] (by decide +kernel) rfl ?_
      refine AI_at _ rfl ?_
      simp (disch:=first|exact dd|fail) only [go_sem,seval,rtD,hp1,rtC,bstr_m3,List.length_append,List.length_cons,List.length_nil,hb3]
      refine AAny_end ?_
      simp (disch:=first|exact dd|fail) only [go_sem,seval]
      refine ⟨i + 1,by show i + 1 ≤ l.length;omega,by show l.length - (i + 1) < l.length - i;omega, ?_, ?_⟩
      · simp (disch:=first|exact dd|fail) only [go_sem,seval,rtD]
        try exact LeV.refl _
      · simp (disch:=first|exact dd|fail) only [go_sem,seval]
    refine forall_one ?_
    refine AI_at _ rfl ?_
    simp (disch:=first|exact dd|fail) only [go_sem,seval,rtD,hp1,rtC,bstr_m3,List.length_append,List.length_cons,List.length_nil,hb3]
    refine cA g1 ?_
    simp (disch:=first|exact dd|fail) only [go_sem,seval]
    refine AAny_free 19 [20,21,28,29] (by decide +kernel) rfl ?_
    refine AI_at _ rfl ?_
    simp (disch:=first|exact dd|fail) only [go_sem,seval,rtD,hp1,rtC,bstr_m3,List.length_append,List.length_cons,List.length_nil,hb3]
    refine AAny_free 20 [21,28,29] (by decide +kernel) rfl ?_
    refine AI_at _ rfl ?_
    simp (disch:=first|exact dd|fail) only [go_sem,seval,rtD,hp1,rtC,bstr_m3,List.length_append,List.length_cons,List.length_nil,hb3]
    refine AAny_free 21 [28,29] (by decide +kernel) rfl ?_
    refine AI_at _ rfl ?_
    simp (disch:=first|exact dd|fail) only [go_sem,seval,rtD,hp1,rtC,bstr_m3,List.length_append,List.length_cons,List.length_nil,hb3]
    refine AAny_free 28 [29] (by decide +kernel) rfl ?_
    refine AI_at _ rfl ?_
    simp (disch:=first|exact dd|fail) only [go_sem,seval,rtD,hp1,rtC,bstr_m3,List.length_append,List.length_cons,List.length_nil,hb3]
    refine AAny_free 29 [] (by decide +kernel) rfl ?_
    refine AI_at _ rfl ?_
    simp (disch:=first|exact dd|fail) only [go_sem,seval,rtD,hp1,rtC,bstr_m3,List.length_append,List.length_cons,List.length_nil,hb3]
    refine AAny_end ?_
    simp (disch:=first|exact dd|fail) only [go_sem,seval]
    refine ⟨i + 1,by show i + 1 ≤ l.length;omega,by show l.length - (i + 1) < l.length - i;omega, ?_, ?_⟩
    · simp (disch:=first|exact dd|fail) only [go_sem,seval,rtD]
      try exact LeV.refl _
    · simp (disch:=first|exact dd|fail) only [go_sem,seval]
theorem r2_PolyOk {l : List Tm} (hl : l.length ≤ 100000) (ht : ∀ p ∈ l,p.2.length < 9223372036854775808) : C E 32 [tmD l] (pokD l):=by
  refine CG_intro Tryz.func32 rfl (by kernel_rfl) rfl (by kernel_rfl) (by kernel_rfl) rfl ?_
  have hP:=r2_polyOk (l:=l) (by omega) ht
  have hlen:=pV_len l
  unfold poD at hP
  unfold pokD
  cases hk : plOk l with
  | false =>
    rw [hk] at hP
    cases ho : okPl l with
    | false =>
      simp only [ho,Bool.false_eq_true,if_false] at hP
      simp (disch:=first|exact dd|fail) only [go_sem,seval]
      refine cA hP ?_
      simp (disch:=first|exact dd|fail) only [go_sem,seval]
      try exact LeV.refl _
    | true =>
      simp only [ho,if_true] at hP
      simp (disch:=first|exact dd|fail) only [go_sem,seval]
      refine cA hP ?_
      simp (disch:=first|exact dd|fail) only [go_sem,seval]
      try exact LeV.refl _
  | true =>
    have ho : okPl l = true:=by unfold plOk at hk;simp at hk;exact hk.1
    rw [hk] at hP
    simp only [ho,if_true] at hP
    have hB:=r2_PutPoly (l:=pV l) (pV_qb ho) (by omega)
    simp (disch:=first|exact dd|fail) only [go_sem,seval]
    refine cA hP ?_
    simp (disch:=first|exact dd|fail) only [go_sem,seval]
    refine cA hB ?_
    simp (disch:=first|exact dd|fail) only [go_sem,seval]
    try exact LeV.refl _
theorem clone_pt {l : List Pt} (hn : l.length < 1073741824) : C E 142 [ptsD l] (ptsD l):=by
  refine CG_intro Tryz.func142 rfl (by kernel_rfl) rfl (by kernel_rfl) (by kernel_rfl) rfl ?_
  simp (disch:=first|exact dd|fail) only [go_sem,seval,ptsD]
  intro b hb
  cases b with
  | false =>
    rw [KE_eq]
    simp (disch:=first|exact dd|fail) only [go_sem,seval,ptsD]
    refine ⟨.inl trivial, .inr trivial,by omega,by omega, ?_⟩
    try exact LeV.refl _
  | true =>
    have h0 : l.length = 0:=hb rfl
    rw [KE_eq]
    simp (disch:=first|exact dd|fail) only [go_sem,seval,ptsD,h0]
    try exact LeV.nils
theorem poly_Terms {l : List Pt} (hn : l.length < 1073741824) : C E 97 [pD l] (ptsD l):=by
  refine CG_intro Tryz.func97 rfl (by kernel_rfl) rfl (by kernel_rfl) (by kernel_rfl) rfl ?_
  have hC:=clone_pt hn
  simp (disch:=first|exact dd|fail) only [go_sem,seval,pD]
  refine cA hC ?_
  simp (disch:=first|exact dd|fail) only [go_sem,seval]
theorem putPoly {l : List Pt} (hq : ∀ p ∈ l,qb 1000000 p.2) (hl : l.length ≤ 100000) : C E 53 [pD l] (.str (plB l)):=by
  refine CG_intro Tryz.func53 rfl (by kernel_rfl) rfl (by kernel_rfl) (by kernel_rfl) rfl ?_
  have hT:=poly_Terms (l:=l) (by omega)
  have hp:=vint_Put l.length (by omega)
  have hvl:=vput_len l.length (by omega)
  have hvp:=vput_pos l.length
  have hBt : ∀ i,i ≤ l.length → (tsB (l.take i)).length ≤ 8000030 * 100000:=fun i hi => by
    have:=tsB_len (l:=l.take i) fun p hp => hq p (List.mem_of_mem_take hp)
    rw [List.length_take,Nat.min_eq_left hi] at this
    omega
  simp (disch:=first|exact dd|fail) only [go_sem,seval,pD]
  refine cA hT ?_
  simp (disch:=first|exact dd|fail) only [go_sem,seval,ptsD]
  refine cA hp ?_
  simp (disch:=first|exact dd|fail) only [go_sem,seval]
  refine callG [1] (sbWrite0 (vput l.length) (by omega)) rfl rfl (LesV.refl _) rfl ?_
  simp (disch:=first|exact dd|fail) only [go_sem,seval,sbR]
  refine AL.of (fun i : Nat => i ≤ l.length) (fun i => l.length - i) (fun i => [(3, .ad 1 0),(14,ptsD l),(15, .int .i64 l.length),(16, .int .i64 i)])
    (fun i => [(1, .var true 2 (.agg [.ad 1 0, .sl 4 (2 * i) 0 (vput l.length ++ tsB (l.take i)).length]) 116),(4,sbW (2 * i) (vput l.length ++ tsB (l.take i)))]) 0 (Nat.zero_le _) ?_ ?_ ?_ ?_
  · simp (disch:=first|exact dd|fail) only [go_sem,seval,ptsD]
    try exact LeV.refl _
  · have e : vput l.length ++ tsB (l.take 0) = vput l.length:=by simp [tsB]
    rw [e]
    simp (disch:=first|exact dd|fail) only [go_sem,seval,sbW]
    try exact fun _ _ => trivial
  · intro x _;simp (disch:=first|exact dd|fail) only [go_sem,seval,sbW]
  intro i hi
  have hb:=hBt i hi
  have hbl : (vput l.length ++ tsB (l.take i)).length = (vput l.length).length + (tsB (l.take i)).length:=List.length_append
  by_cases hil : i = l.length
  · skip
    subst hil
    rw [List.take_length] at hb hbl ⊢
    unfold plB
    generalize hT1 : vput l.length ++ tsB l = m at *
    simp (disch:=first|exact dd|fail) only [go_sem,seval,sbW,ptsD]
    refine callG [1,4] (sbString (2 * l.length) m (by omega)) rfl rfl (LesV.refl _) rfl ?_
    simp (disch:=first|exact dd|fail) only [go_sem,seval]
    try exact LeV.refl _
  · have hp1 : ptR l i = ptC (l.getD i pt0):=rfl
    have a1:=hq (l.getD i pt0) (getD_mem' l i _ (by omega))
    have g1:=vint_PutRat (a1.mono (k:=40000000) (by omega))
    have l1:=qB_max (by omega) a1
    have hb2:=tsB_take (l:=l) (i:=i) (by omega)
    have hb3 : (vput l.length ++ tsB (l.take i)) ++ mB (l.getD i pt0).1 ++ qB (l.getD i pt0).2 = vput l.length ++ tsB (l.take (i + 1)):=by
      rw [← hb2];unfold tB;simp only [List.append_assoc]
    generalize l.getD i pt0 = t at *
    obtain ⟨⟨x,y,z⟩,q⟩:=t
    simp only [mB] at g1 hb3 l1
    generalize hT1 : vput l.length ++ tsB (l.take i) = m at *
    generalize hT2 : vput l.length ++ tsB (l.take (i + 1)) = m' at *
    simp (disch:=first|exact dd|fail) only [go_sem,seval,sbW,ptsD,hp1,ptC,bstr_v3]
    refine callG [1,4] (sbWrite1 (2 * i) m [x,y,z] (by simp;omega)) rfl rfl (LesV.refl _) rfl ?_
    simp (disch:=first|exact dd|fail) only [go_sem,seval,sbU]
    refine cA g1 ?_
    simp (disch:=first|exact dd|fail) only [go_sem,seval]
    have hw:=sbWrite1 (2 * i + 1) (m ++ [x,y,z]) (qB q) (by simp;omega)
    rw [hb3,List.length_append] at hw
    refine callG [1,4] hw rfl rfl (LesV.refl _) rfl ?_
    simp (disch:=first|exact dd|fail) only [go_sem,seval,sbU]
    have hlm : m'.length = m.length + 3 + (qB q).length:=by rw [← hb3];simp;omega
    have hlm2 : (vput l.length).length + (tsB (l.take (i + 1))).length = m.length + 3 + (qB q).length:=by rw [← hlm,← hT2,List.length_append]
    have e2 : 2 * (i + 1) = 2 * i + 1 + 1:=by omega
    refine ⟨i + 1,by show i + 1 ≤ l.length;omega,by show l.length - (i + 1) < l.length - i;omega, ?_, ?_⟩
    · simp (disch:=first|exact dd|fail) only [go_sem,seval,ptsD]
      try exact LeV.refl _
    · simp (disch:=first|exact dd|fail) only [go_sem,seval,hT2,hlm,hlm2,e2]
      try exact fun _ _ => trivial
theorem claim_PutPoly {l : List Tm} (hl : l.length ≤ 100000) (ht : ∀ p ∈ l,p.2.length < 9223372036854775808) : C E 31 [tmD l] (pokD l):=by
  refine CG_intro Tryz.func31 rfl (by kernel_rfl) rfl (by kernel_rfl) (by kernel_rfl) rfl ?_
  have hP:=poly_Parse (l:=l) (by omega) ht
  have hL:=claim_low (l:=l) (by omega)
  have hlen:=pV_len l
  unfold ppD at hP
  unfold pokD plOk
  cases ho : okPl l with
  | false =>
    simp only [ho,Bool.false_eq_true,if_false] at hP
    simp (disch:=first|exact dd|fail) only [go_sem,seval,pD]
    refine cA hP ?_
    simp (disch:=first|exact dd|fail) only [go_sem,seval,pD]
    try exact LeV.refl _
  | true =>
    simp only [ho,if_true] at hP
    cases hk : lowB l with
    | false =>
      rw [hk] at hL
      simp (disch:=first|exact dd|fail) only [go_sem,seval,pD]
      refine cA hP ?_
      simp (disch:=first|exact dd|fail) only [go_sem,seval,pD]
      refine cA hL ?_
      simp (disch:=first|exact dd|fail) only [go_sem,seval,pD]
      try exact LeV.refl _
    | true =>
      have hB:=putPoly (l:=pV l) (pV_qb ho) (by omega)
      rw [hk] at hL
      simp (disch:=first|exact dd|fail) only [go_sem,seval,pD]
      refine cA hP ?_
      simp (disch:=first|exact dd|fail) only [go_sem,seval,pD]
      refine cA hL ?_
      simp (disch:=first|exact dd|fail) only [go_sem,seval,pD]
      refine cA hB ?_
      simp (disch:=first|exact dd|fail) only [go_sem,seval,pD]
      try exact LeV.refl _
def valB : List UInt8 → Nat
  | [] => 0
  | c :: l => c.toNat * 256 ^ l.length + valB l
theorem valB_lt : ∀ l : List UInt8,valB l < 256 ^ l.length
  | [] => by simp [valB]
  | c :: l => by
    have h:=valB_lt l
    have hc:=c.toNat_lt
    simp only [valB,List.length_cons,Nat.pow_succ]
    generalize 256 ^ l.length = p at *
    have : c.toNat * p ≤ 255 * p:=Nat.mul_le_mul_right _ (by omega)
    omega
def loB (l : List UInt8) (i : Nat) : Nat:=valB (l.drop (l.length - i))
theorem loB_zero (l : List UInt8) : loB l 0 = 0:=by unfold loB;rw [Nat.sub_zero,List.drop_length];rfl
theorem loB_all (l : List UInt8) : loB l l.length = valB l:=by unfold loB;rw [Nat.sub_self,List.drop_zero]
theorem loB_lt {l : List UInt8} {i : Nat} (h : i ≤ l.length) : loB l i < 256 ^ i:=by
  have:=valB_lt (l.drop (l.length - i))
  rw [List.length_drop,show l.length - (l.length - i) = i by omega] at this
  exact this
theorem loB_succ {l : List UInt8} {i : Nat} (h : i < l.length) : loB l (i + 1) = 256 ^ i * (l.getD (l.length - 1 - i) 0).toNat + loB l i:=by
  unfold loB
  rw [List.drop_eq_getElem_cons (i:=l.length - (i + 1)) (by omega),valB,List.length_drop,show l.length - (i + 1) + 1 = l.length - i by omega,show l.length - (l.length - i) = i by omega,List.getD_eq_getElem?_getD,show l.length - 1 - i = l.length - (i + 1) by omega,List.getElem?_eq_getElem (by omega),Option.getD_some,Nat.mul_comm]
def lmb (N x : Nat) : List Nat:=(List.range N).map fun j => x / 4294967296 ^ j % 4294967296
theorem lmb_len (N x : Nat) : (lmb N x).length = N:=by unfold lmb;rw [List.length_map,List.length_range]
theorem lmb_lows (N x : Nat) : lows (lmb N x):=fun y hy => by
  obtain ⟨j,_,rfl⟩:=List.mem_map.1 hy
  exact Nat.mod_lt _ (by omega)
theorem lmb_at {N x j : Nat} (h : j < N) : (lmb N x).getD j 0 = x / 4294967296 ^ j % 4294967296:=by
  unfold lmb
  rw [List.getD_eq_getElem?_getD,List.getElem?_map,List.getElem?_range h]
  rfl
theorem val_lmb (x : Nat) : ∀ N,val (lmb N x) = x % 4294967296 ^ N
  | 0 => by
    have : x % 4294967296 ^ 0 = 0:=by rw [Nat.pow_zero];exact Nat.mod_one x
    rw [this];rfl
  | N + 1 => by
    have h:=val_lmb x N
    have e : lmb (N + 1) x = lmb N x ++ [x / 4294967296 ^ N % 4294967296]:=by unfold lmb;rw [List.range_succ,List.map_append];rfl
    rw [e,val_append,lmb_len,h,Nat.pow_succ,Nat.mod_mul]
    simp [val]
theorem lmb_fin {l : List UInt8} {N : Nat} (h : l.length ≤ 4 * N) : val (lmb N (valB l)) = valB l:=by
  rw [val_lmb]
  refine Nat.mod_eq_of_lt (Nat.lt_of_lt_of_le (valB_lt l) ?_)
  have e : (4294967296 : Nat) ^ N = 256 ^ (4 * N):=by rw [Nat.pow_mul]
  rw [e]
  exact Nat.pow_le_pow_right (by omega) h
theorem p256 (i : Nat) : 256 ^ i = 4294967296 ^ (i / 4) * 2 ^ (8 * (i % 4)):=by
  have e1 : (256 : Nat) ^ i = 2 ^ (8 * i):=by rw [Nat.pow_mul]
  have e2 : 8 * i = 32 * (i / 4) + 8 * (i % 4):=by omega
  rw [e1,e2,Nat.pow_add,Nat.pow_mul]
theorem lmb_here {x i c : Nat} (hx : x < 256 ^ i) (hc : c < 256) : x / 4294967296 ^ (i / 4) % 4294967296 < 2 ^ (8 * (i % 4)) ∧
    (256 ^ i * c + x) / 4294967296 ^ (i / 4) % 4294967296 = x / 4294967296 ^ (i / 4) % 4294967296 + 2 ^ (8 * (i % 4)) * c ∧ 2 ^ (8 * (i % 4)) * c < 4294967296:=by
  have hp : 0 < 4294967296 ^ (i / 4):=Nat.pow_pos (by omega)
  have hr : 2 ^ (8 * (i % 4)) ≤ 16777216:=by
    have : 2 ^ (8 * (i % 4)) ≤ 2 ^ 24:=Nat.pow_le_pow_right (by omega) (by omega)
    simpa using this
  rw [p256] at hx ⊢
  have h1 : x / 4294967296 ^ (i / 4) < 2 ^ (8 * (i % 4)):=Nat.div_lt_of_lt_mul hx
  have h2 : (4294967296 ^ (i / 4) * 2 ^ (8 * (i % 4)) * c + x) / 4294967296 ^ (i / 4) = 2 ^ (8 * (i % 4)) * c + x / 4294967296 ^ (i / 4):=by
    rw [Nat.mul_assoc,Nat.mul_add_div hp]
  rw [h2]
  generalize x / 4294967296 ^ (i / 4) = q at *
  have h3 : 2 ^ (8 * (i % 4)) * c ≤ 2 ^ (8 * (i % 4)) * 255:=Nat.mul_le_mul_left _ (by omega)
  generalize 2 ^ (8 * (i % 4)) * c = m at *
  generalize 2 ^ (8 * (i % 4)) = r at *
  clear hx h2 hp
  omega
theorem lmb_else {x i c j : Nat} (hx : x < 256 ^ i) (hc : c < 256) (hj : j ≠ i / 4) : (256 ^ i * c + x) / 4294967296 ^ j % 4294967296 = x / 4294967296 ^ j % 4294967296:=by
  rcases Nat.lt_or_gt_of_ne hj with h | h
  · have hp : 0 < 4294967296 ^ j:=Nat.pow_pos (by omega)
    have e : 4294967296 ^ (i / 4) = 4294967296 ^ j * (4294967296 * 4294967296 ^ (i / 4 - j - 1)):=by
      rw [← Nat.pow_succ',← Nat.pow_add]
      congr 1
      omega
    rw [p256,e]
    rw [show 4294967296 ^ j * (4294967296 * 4294967296 ^ (i / 4 - j - 1)) * 2 ^ (8 * (i % 4)) * c = 4294967296 ^ j * (4294967296 * (4294967296 ^ (i / 4 - j - 1) * 2 ^ (8 * (i % 4)) * c)) by simp only [Nat.mul_assoc],Nat.mul_add_div hp,Nat.mul_add_mod]
  · have h1 : 256 ^ (i + 1) ≤ 4294967296 ^ j:=by
      have e1 : (4294967296 : Nat) ^ j = 256 ^ (4 * j):=by rw [Nat.pow_mul]
      rw [e1]
      exact Nat.pow_le_pow_right (by omega) (by omega)
    have h2 : 256 ^ i * c + x < 256 ^ (i + 1):=by
      rw [Nat.pow_succ]
      have : 256 ^ i * c ≤ 256 ^ i * 255:=Nat.mul_le_mul_left _ (by omega)
      generalize 256 ^ i = p at *
      omega
    rw [Nat.div_eq_of_lt (by omega),Nat.div_eq_of_lt (by omega)]
theorem bits_or_u32N (a b : Nat) (ha : a < 4294967296) (hb : b < 4294967296) : bits .u32 .or (a : Int) (b : Int) = ((a ||| b : Nat) : Int):=by
  have e : ∀ v : Nat,v < 4294967296 → (BitVec.ofInt IntKind.u32.bits (v : Int)).toNat = v:=fun v hv => by
    show (BitVec.ofInt 32 (v : Int)).toNat = v
    simp;omega
  have hlt : a ||| b < 4294967296:=Nat.or_lt_two_pow (n:=32) ha hb
  unfold bits
  simp only [BitVec.toNat_or,e a ha,e b hb]
  rw [wrap_u32',Int.emod_eq_of_lt (by omega) (by omega)]
theorem lmb_or {x i c : Nat} (hx : x < 256 ^ i) (hc : c < 256) : bits .u32 .or ((x / 4294967296 ^ (i / 4) % 4294967296 : Nat) : Int) (IntKind.u32.wrap ((c : Int) * ((2 ^ (8 * (i % 4)) : Nat) : Int))) = (((256 ^ i * c + x) / 4294967296 ^ (i / 4) % 4294967296 : Nat) : Int):=by
  obtain ⟨h1,h2,h3⟩:=lmb_here hx hc
  rw [h2]
  generalize x / 4294967296 ^ (i / 4) % 4294967296 = q at *
  have h4 : 2 ^ (8 * (i % 4)) ≤ 16777216:=by
    have : 2 ^ (8 * (i % 4)) ≤ 2 ^ 24:=Nat.pow_le_pow_right (by omega) (by omega)
    simpa using this
  have e : ((c : Int) * ((2 ^ (8 * (i % 4)) : Nat) : Int)) = ((2 ^ (8 * (i % 4)) * c : Nat) : Int):=by rw [Int.natCast_mul,Int.mul_comm]
  rw [e,wrap_u32 (by omega),bits_or_u32N _ _ (by omega) h3]
  have:=or_addN (8 * (i % 4)) c q h1
  rw [this]
def zhd (b : List UInt8) : Bool:=decide (0 < b.length ∧ (b.getD 0 0).toNat = 0)
def rdV (b : List UInt8) : Nat:=if zhd b = true then 0 else valB b
theorem valB_nb (b : List UInt8) : nb (valB b) ≤ b.length / 4 + 1:=by
  refine nb_lt.2 ?_
  have e : (4294967296 : Nat) ^ (b.length / 4 + 1) = 256 ^ (4 * (b.length / 4 + 1)):=by rw [Nat.pow_mul]
  rw [e]
  exact Nat.lt_of_lt_of_le (valB_lt b) (Nat.pow_le_pow_right (by omega) (by omega))
def zget (b : List UInt8) (a bits : Int) : Int × Nat × Nat:=
  if (vget b a).2.2 ≠ 0 then (0,0,(vget b a).2.2) else
  if (max bits 0).toNat / 8 + 1 < (vget b a).1 / 2 then (0,0,15) else
  if b.length - (vget b a).2.1 < (vget b a).1 / 2 then (0,0,4) else
  if zhd ((b.take ((vget b a).2.1 + (vget b a).1 / 2)).drop (vget b a).2.1) = true ∨ (vget b a).1 = 1 then (0,0,2) else
  if (max bits 0).toNat < nbit (valB ((b.take ((vget b a).2.1 + (vget b a).1 / 2)).drop (vget b a).2.1)) then (0,0,15) else
  (mkZ (decide ((vget b a).1 % 2 = 1)) (valB ((b.take ((vget b a).2.1 + (vget b a).1 / 2)).drop (vget b a).2.1)),(vget b a).2.1 + (vget b a).1 / 2,0)
theorem vgo_end (b : List UInt8) (a : Nat) : ∀ (f i v : Nat),(vgo b a i v f).2.2 = 0 → a + i + 1 ≤ (vgo b a i v f).2.1 ∧ (vgo b a i v f).2.1 ≤ b.length
  | 0,i,v,h => by simp [vgo] at h
  | f + 1,i,v,h => by
    rw [vgo] at h ⊢
    split
    · rename_i h1;rw [if_pos h1] at h;cases h
    rename_i h1
    rw [if_neg h1] at h
    split
    · rename_i h2;rw [if_pos h2] at h;cases h
    rename_i h2
    rw [if_neg h2] at h
    split
    · exact ⟨Nat.le_refl _,by show a + i + 1 ≤ _;omega⟩
    rename_i h3
    rw [if_neg h3] at h
    have:=vgo_end b a f (i + 1) _ h
    omega
theorem vget_end {b : List UInt8} {a : Int} (h : (vget b a).2.2 = 0) : 0 ≤ a ∧ a.toNat + 1 ≤ (vget b a).2.1 ∧ (vget b a).2.1 ≤ b.length:=by
  unfold vget at h ⊢
  split
  · rename_i h1;rw [if_pos h1] at h;cases h
  · rename_i h1
    rw [if_neg h1] at h
    have:=vgo_end b a.toNat 10 0 0 h
    omega
theorem vgo_err (b : List UInt8) (a : Nat) : ∀ (f i v : Nat),(vgo b a i v f).2.2 ≠ 0 → (vgo b a i v f).1 = 0 ∧ (vgo b a i v f).2.1 = 0 ∧ ((vgo b a i v f).2.2 = 4 ∨ (vgo b a i v f).2.2 = 6)
  | 0,i,v,h => by simp [vgo]
  | f + 1,i,v,h => by
    rw [vgo] at h ⊢
    split
    · simp
    rename_i h1
    rw [if_neg h1] at h
    split
    · simp
    rename_i h2
    rw [if_neg h2] at h
    split
    · rename_i h3;rw [if_pos h3] at h;exact absurd rfl h
    rename_i h3
    rw [if_neg h3] at h
    exact vgo_err b a f (i + 1) _ h
theorem vget_err {b : List UInt8} {a : Int} (h : (vget b a).2.2 ≠ 0) : (vget b a).1 = 0 ∧ (vget b a).2.1 = 0 ∧ ((vget b a).2.2 = 1 ∨ (vget b a).2.2 = 4 ∨ (vget b a).2.2 = 6):=by
  unfold vget at h ⊢
  split
  · simp
  · rename_i h1
    rw [if_neg h1] at h
    have:=vgo_err b a.toNat 10 0 0 h
    exact ⟨this.1,this.2.1, .inr this.2.2⟩
theorem vget_lt (b : List UInt8) (a : Int) : (vget b a).1 < 18446744073709551616:=by
  have key : ∀ (f i v : Nat),i + f = 10 → (i < 10 → v < 2 ^ (7 * i)) → (vgo b a.toNat i v f).1 < 18446744073709551616:=by
    intro f
    induction f with
    | zero => intro i v _ _;simp [vgo]
    | succ f ih =>
      intro i v hif hv
      rw [vgo]
      split
      · simp
      split
      · simp
      rename_i h2
      have hc : (b.getD (a.toNat + i) 0).toNat % 128 < 128:=Nat.mod_lt _ (by omega)
      have hn:=vgo_next (v:=v) ((b.getD (a.toNat + i) 0).toNat % 128) (i:=i) (by omega) hc (by omega) (hv (by omega))
      split
      · exact hn.1
      · exact ih (i + 1) _ (by omega) fun h => hn.2.1 (by omega)
  unfold vget
  split
  · simp
  · exact key 10 0 0 rfl fun _ => by decide
theorem zget_ok {b : List UInt8} {a bits : Int} (h : (zget b a bits).2.2 = 0) : 0 ≤ a ∧ a.toNat + 1 ≤ (zget b a bits).2.1 ∧ (zget b a bits).2.1 ≤ b.length ∧ zb (zget b a bits).1 ≤ b.length / 4 + 1:=by
  unfold zget at h ⊢
  split
  · rename_i h1;rw [if_pos h1] at h;exact absurd h h1
  rename_i h1
  rw [if_neg h1] at h
  have hv:=vget_end (b:=b) (a:=a) (by omega)
  split
  · rename_i h2;rw [if_pos h2] at h;cases h
  rename_i h2
  rw [if_neg h2] at h
  split
  · rename_i h3;rw [if_pos h3] at h;cases h
  rename_i h3
  rw [if_neg h3] at h
  split
  · rename_i h4;rw [if_pos h4] at h;cases h
  rename_i h4
  rw [if_neg h4] at h
  split
  · rename_i h5;rw [if_pos h5] at h;cases h
  refine ⟨hv.1,by show a.toNat + 1 ≤ (vget b a).2.1 + (vget b a).1 / 2;omega,by show (vget b a).2.1 + (vget b a).1 / 2 ≤ _;omega, ?_⟩
  have hn:=valB_nb ((b.take ((vget b a).2.1 + (vget b a).1 / 2)).drop (vget b a).2.1)
  rw [List.length_drop,List.length_take] at hn
  show zb (mkZ _ _) ≤ _
  unfold zb
  rw [mkZ_abs]
  omega
theorem zget_err {b : List UInt8} {a bits : Int} (h : (zget b a bits).2.2 ≠ 0) : (zget b a bits).1 = 0 ∧ (zget b a bits).2.1 = 0 ∧ (zget b a bits).2.2 < 18:=by
  unfold zget at h ⊢
  split
  · rename_i h1
    have:=vget_err h1
    simp;omega
  split
  · simp
  split
  · simp
  split
  · simp
  split
  · simp
  · rename_i h1 h2 h3 h4 h5
    rw [if_neg h1,if_neg h2,if_neg h3,if_neg h4,if_neg h5] at h
    exact absurd rfl h
def qget (b : List UInt8) (a bits : Int) : Rat × Nat × Nat:=
  if (zget b a bits).2.2 ≠ 0 then (0,0,(zget b a bits).2.2) else
  if (zget b (zget b a bits).2.1 bits).2.2 ≠ 0 then (0,0,(zget b (zget b a bits).2.1 bits).2.2) else
  if (zget b (zget b a bits).2.1 bits).1 ≤ 0 ∨ Nat.gcd (zget b (zget b a bits).2.1 bits).1.natAbs (zget b a bits).1.natAbs ≠ 1 then (0,0,2) else
  (mkRat (zget b a bits).1 (zget b (zget b a bits).2.1 bits).1.natAbs,(zget b (zget b a bits).2.1 bits).2.1,0)
def bxOkD (l : List (Txt × Txt)) : D:=.tup [.str (if (boxR l).2 = 0 then bxBy (boxR l).1 else []), .bool (decide ((boxR l).2 = 0))]
theorem claim_PutBox {l : List (Txt × Txt)} (hl : l.length < 1073741824) (ht : ∀ p ∈ l,p.1.length < 9223372036854775808 ∧ p.2.length < 9223372036854775808) : C E 25 [txD l] (bxOkD l):=by
  refine CG_intro Tryz.func25 rfl (by kernel_rfl) rfl (by kernel_rfl) (by kernel_rfl) rfl ?_
  have hP:=box_Parse hl ht
  unfold bxOkD
  by_cases h : (boxR l).2 = 0
  · obtain ⟨⟨q1,q2,q3⟩,q4,q5⟩:=boxR_ok h
    have hB:=putBox (l:=(boxR l).1) (fun p hp => ⟨(q3 p hp).1.mono (by omega),(q3 p hp).2.mono (by omega)⟩) (by omega) (by omega)
    simp only [boxD,if_pos h] at hP
    simp (disch:=first|exact dd|fail) only [go_sem,seval]
    refine cA hP ?_
    simp (disch:=first|exact dd|fail) only [go_sem,seval,h]
    refine cA hB ?_
    simp (disch:=first|exact dd|fail) only [go_sem,seval]
    try exact LeV.refl _
  · simp only [boxD,if_neg h] at hP
    simp (disch:=first|exact dd|fail) only [go_sem,seval]
    refine cA hP ?_
    simp (disch:=first|exact dd|fail) only [go_sem,seval,h]
    try exact LeV.refl _
abbrev Rs:=Nat × Nat
def byF (b : List UInt8) (s : Rs) : Nat × Rs:=if s.2 ≠ 0 then (0,s) else if b.length ≤ s.1 then (0,(s.1,4)) else ((b.getD s.1 0).toNat,(s.1 + 1,0))
def cnF (b : List UInt8) (lo hi : Nat) (s : Rs) : Nat × Rs:=if (byF b s).2.2 ≠ 0 then (0,(byF b s).2) else if (byF b s).1 < lo ∨ hi < (byF b s).1 then (0,((byF b s).2.1,2)) else byF b s
def raF (b : List UInt8) (bits : Int) (s : Rs) : Txt × Rs:=if s.2 ≠ 0 then ([],s) else (decQ (qget b s.1 bits).1,(qget b s.1 bits).2)
def prF (b : List UInt8) (bits : Int) (s : Rs) : (Txt × Txt) × Rs:=(((raF b bits s).1,(raF b bits (raF b bits s).2).1),(raF b bits (raF b bits s).2).2)
def bxG (b : List UInt8) (bits : Int) : Nat → List (Txt × Txt) → Rs → List (Txt × Txt) × Rs
  | 0,acc,s => (acc,s)
  | k + 1,acc,s => if s.2 ≠ 0 then (acc,s) else bxG b bits k (acc ++ [(prF b bits s).1]) (prF b bits s).2
def frm {α : Type} (ok : α → Bool) (x : α × Rs) : α × Rs:=if x.2.2 = 0 ∧ ok x.1 = false then (x.1,(x.2.1,2)) else x
def bxF (b : List UInt8) (bits : Int) (n : Nat) (s : Rs) : List (Txt × Txt) × Rs:=frm (fun l => decide ((boxR l).2 = 0)) (bxG b bits n [] s)
def tmF (b : List UInt8) (bits : Int) (s : Rs) : Tm × Rs:=
  ((((UInt8.ofNat (byF b s).1),(UInt8.ofNat (byF b (byF b s).2).1),(UInt8.ofNat (byF b (byF b (byF b s).2).2).1)),(raF b bits (byF b (byF b (byF b s).2).2).2).1),(raF b bits (byF b (byF b (byF b s).2).2).2).2)
def plG (b : List UInt8) (bits : Int) : Nat → List Tm → Rs → List Tm × Rs
  | 0,acc,s => (acc,s)
  | k + 1,acc,s => if s.2 ≠ 0 then (acc,s) else plG b bits k (acc ++ [(tmF b bits s).1]) (tmF b bits s).2
def plS (b : List UInt8) (T : Int) (at_ : Nat) : Rs:=((vget b at_).2.1,if (vget b at_).2.2 = 0 ∧ max T 0 < ((vget b at_).1 : Int) then 16 else (vget b at_).2.2)
def plF (b : List UInt8) (T bits : Int) (s : Rs) : List Tm × Rs:=if s.2 ≠ 0 then ([],s) else frm plOk (plG b bits (vget b s.1).1 [] (plS b T s.1))
theorem byF_err {b : List UInt8} {s : Rs} (h : s.2 ≠ 0) : byF b s = (0,s):=by unfold byF;rw [if_pos h]
theorem cnF_err {b : List UInt8} {lo hi : Nat} {s : Rs} (h : s.2 ≠ 0) : cnF b lo hi s = (0,s):=by unfold cnF;rw [byF_err h,if_pos h]
theorem raF_err {b : List UInt8} {bits : Int} {s : Rs} (h : s.2 ≠ 0) : raF b bits s = ([],s):=by unfold raF;rw [if_pos h]
theorem prF_err {b : List UInt8} {bits : Int} {s : Rs} (h : s.2 ≠ 0) : prF b bits s = (([],[]),s):=by unfold prF;rw [raF_err h,raF_err h]
theorem bxG_err {b : List UInt8} {bits : Int} {s : Rs} (h : s.2 ≠ 0) (k : Nat) (acc : List (Txt × Txt)) : bxG b bits k acc s = (acc,s):=by
  cases k with
  | zero => rfl
  | succ k => rw [bxG,if_pos h]
theorem plG_err {b : List UInt8} {bits : Int} {s : Rs} (h : s.2 ≠ 0) (k : Nat) (acc : List Tm) : plG b bits k acc s = (acc,s):=by
  cases k with
  | zero => rfl
  | succ k => rw [plG,if_pos h]
theorem frm_err {α : Type} {ok : α → Bool} {x : α × Rs} (h : x.2.2 ≠ 0) : frm ok x = x:=by unfold frm;rw [if_neg (by omega)]
theorem frm_ok {α : Type} {ok : α → Bool} {x : α × Rs} (h : ok x.1 = true) : frm ok x = x:=by unfold frm;rw [if_neg (by rw [h];simp)]
theorem frm_no {α : Type} {ok : α → Bool} {x : α × Rs} (h : x.2.2 = 0) (h2 : ok x.1 = false) : frm ok x = (x.1,(x.2.1,2)):=by unfold frm;rw [if_pos ⟨h,h2⟩]
theorem frm_val {α : Type} (ok : α → Bool) (x : α × Rs) : (frm ok x).1 = x.1 ∧ (frm ok x).2.1 = x.2.1:=by unfold frm;split <;> exact ⟨rfl,rfl⟩
theorem frm_zero {α : Type} {ok : α → Bool} {x : α × Rs} (h : (frm ok x).2.2 = 0) : frm ok x = x ∧ x.2.2 = 0 ∧ ok x.1 = true:=by
  unfold frm at h ⊢
  split
  · rename_i h1;rw [if_pos h1] at h;cases h
  · rename_i h1
    rw [if_neg h1] at h
    refine ⟨rfl,h, ?_⟩
    cases ho : ok x.1 with
    | true => rfl
    | false => exact absurd ⟨h,ho⟩ h1
theorem bxF_err {b : List UInt8} {bits : Int} {s : Rs} (h : s.2 ≠ 0) (n : Nat) : bxF b bits n s = ([],s):=by unfold bxF;rw [bxG_err h,frm_err h]
theorem plF_err {b : List UInt8} {T bits : Int} {s : Rs} (h : s.2 ≠ 0) : plF b T bits s = ([],s):=by unfold plF;rw [if_pos h]
def RsOk (b : List UInt8) (s : Rs) : Prop:=s.1 ≤ b.length ∧ s.2 < 18
theorem byF_rs {b : List UInt8} {s : Rs} (h : RsOk b s) : RsOk b (byF b s).2 ∧ (byF b s).1 < 256:=by
  obtain ⟨h1,h2⟩:=h
  unfold byF
  split
  · exact ⟨⟨h1,h2⟩,by show 0 < 256;omega⟩
  split
  · exact ⟨⟨h1,by show 4 < 18;omega⟩,by show 0 < 256;omega⟩
  · exact ⟨⟨by show s.1 + 1 ≤ b.length;omega,by show 0 < 18;omega⟩,UInt8.toNat_lt _⟩
theorem cnF_rs {b : List UInt8} {lo hi : Nat} {s : Rs} (h : RsOk b s) : RsOk b (cnF b lo hi s).2 ∧ (cnF b lo hi s).1 < 256:=by
  have h1:=byF_rs h
  unfold cnF
  split
  · exact ⟨h1.1,by show 0 < 256;omega⟩
  split
  · exact ⟨⟨h1.1.1,by show 2 < 18;omega⟩,by show 0 < 256;omega⟩
  · exact h1
theorem qget_err {b : List UInt8} {a bits : Int} (h : (qget b a bits).2.2 ≠ 0) : (qget b a bits).1 = 0 ∧ (qget b a bits).2.1 = 0 ∧ (qget b a bits).2.2 < 18:=by
  unfold qget at h ⊢
  split
  · rename_i h1
    exact ⟨rfl,rfl,(zget_err h1).2.2⟩
  split
  · rename_i h1
    exact ⟨rfl,rfl,(zget_err h1).2.2⟩
  split
  · exact ⟨rfl,rfl,by show 2 < 18;omega⟩
  · rename_i h1 h2 h3
    rw [if_neg h1,if_neg h2,if_neg h3] at h
    exact absurd rfl h
theorem qget_ok {b : List UInt8} {a bits : Int} (h : (qget b a bits).2.2 = 0) : 0 ≤ a ∧ a.toNat + 2 ≤ (qget b a bits).2.1 ∧ (qget b a bits).2.1 ≤ b.length ∧ qb (b.length / 4 + 1) (qget b a bits).1:=by
  unfold qget at h ⊢
  split
  · rename_i h1;rw [if_pos h1] at h;exact absurd h h1
  rename_i h1
  rw [if_neg h1] at h
  split
  · rename_i h2;rw [if_pos h2] at h;exact absurd h h2
  rename_i h2
  rw [if_neg h2] at h
  split
  · rename_i h3;rw [if_pos h3] at h;cases h
  rename_i h3
  have g1:=zget_ok (b:=b) (a:=a) (bits:=bits) (by omega)
  have g2:=zget_ok (b:=b) (a:=((zget b a bits).2.1 : Nat)) (bits:=bits) (by omega)
  refine ⟨g1.1,by show a.toNat + 2 ≤ (zget b ((zget b a bits).2.1 : Nat) bits).2.1;omega,g2.2.2.1, ?_⟩
  have m:=mk_num_le (zget b a bits).1 (d:=(zget b ((zget b a bits).2.1 : Nat) bits).1.natAbs) (by omega)
  exact ⟨Nat.le_trans m.1 g1.2.2.2,Nat.le_trans m.2 g2.2.2.2⟩
theorem qget_rs (b : List UInt8) (a bits : Int) : RsOk b (qget b a bits).2 ∧ qb (b.length / 4 + 1) (qget b a bits).1:=by
  by_cases h : (qget b a bits).2.2 = 0
  · have:=qget_ok h
    exact ⟨⟨this.2.2.1,by omega⟩,this.2.2.2⟩
  · have:=qget_err h
    refine ⟨⟨by omega,this.2.2⟩, ?_⟩
    rw [this.1]
    exact ⟨by show zb 0 ≤ _;unfold zb;show nb 0 ≤ _;rw [nb,limbs_zero];simp,by show nb 1 ≤ _;exact nb_lt.2 (Nat.one_lt_pow (by omega) (by omega))⟩
theorem raF_rs {b : List UInt8} {bits : Int} {s : Rs} (h : RsOk b s) : RsOk b (raF b bits s).2:=by
  unfold raF
  split
  · exact h
  · exact (qget_rs b s.1 bits).1
theorem prF_rs {b : List UInt8} {bits : Int} {s : Rs} (h : RsOk b s) : RsOk b (prF b bits s).2:=raF_rs (raF_rs h)
theorem bxG_rs {b : List UInt8} {bits : Int} : ∀ (k : Nat) (acc : List (Txt × Txt)) (s : Rs),RsOk b s → RsOk b (bxG b bits k acc s).2 ∧ (bxG b bits k acc s).1.length ≤ acc.length + k
  | 0,acc,s,h => ⟨h,Nat.le_refl _⟩
  | k + 1,acc,s,h => by
    rw [bxG]
    split
    · exact ⟨h,by show acc.length ≤ _;omega⟩
    · have:=bxG_rs (bits:=bits) k (acc ++ [(prF b bits s).1]) _ (prF_rs (bits:=bits) h)
      rw [List.length_append,List.length_singleton] at this
      exact ⟨this.1,by omega⟩
theorem frm_rs {α : Type} {b : List UInt8} {ok : α → Bool} {x : α × Rs} (h : RsOk b x.2) : RsOk b (frm ok x).2:=by
  unfold frm
  split
  · exact ⟨h.1,by show 2 < 18;omega⟩
  · exact h
theorem bxF_rs {b : List UInt8} {bits : Int} {n : Nat} {s : Rs} (h : RsOk b s) : RsOk b (bxF b bits n s).2 ∧ (bxF b bits n s).1.length ≤ n:=by
  have:=bxG_rs (bits:=bits) n [] s h
  unfold bxF
  rw [(frm_val _ _).1]
  exact ⟨frm_rs this.1,by simpa using this.2⟩
theorem tmF_rs {b : List UInt8} {bits : Int} {s : Rs} (h : RsOk b s) : RsOk b (tmF b bits s).2:=raF_rs (byF_rs (byF_rs (byF_rs h).1).1).1
theorem byF_ok {b : List UInt8} {s : Rs} (h : (byF b s).2.2 = 0) : s.2 = 0 ∧ s.1 < b.length ∧ byF b s = ((b.getD s.1 0).toNat,(s.1 + 1,0)):=by
  unfold byF at h ⊢
  by_cases h1 : s.2 ≠ 0
  · rw [if_pos h1] at h;exact absurd h h1
  · rw [if_neg h1] at h ⊢
    by_cases h2 : b.length ≤ s.1
    · rw [if_pos h2] at h;cases h
    · rw [if_neg h2];exact ⟨by omega,by omega,rfl⟩
theorem raF_ok {b : List UInt8} {bits : Int} {s : Rs} (h : (raF b bits s).2.2 = 0) : s.2 = 0 ∧ s.1 + 2 ≤ (raF b bits s).2.1 ∧ (qget b s.1 bits).2.2 = 0:=by
  unfold raF at h ⊢
  by_cases h1 : s.2 ≠ 0
  · rw [if_pos h1] at h;exact absurd h h1
  · rw [if_neg h1] at h ⊢
    have:=qget_ok h
    exact ⟨by omega,by have:=this.2.1;simpa using this,h⟩
theorem tmF_ok {b : List UInt8} {bits : Int} {s : Rs} (h : (tmF b bits s).2.2 = 0) : s.2 = 0 ∧ s.1 + 5 ≤ (tmF b bits s).2.1:=by
  unfold tmF at h ⊢
  simp only at h ⊢
  have h4:=raF_ok h
  have h3:=byF_ok h4.1
  have h2:=byF_ok h3.1
  have h1:=byF_ok h2.1
  refine ⟨h1.1, ?_⟩
  have:=h4.2.1
  rw [h3.2.2,h2.2.2,h1.2.2] at this
  simp only at this
  rw [h3.2.2,h2.2.2,h1.2.2]
  exact this
theorem plG_rs {b : List UInt8} {bits : Int} : ∀ (k : Nat) (acc : List Tm) (s : Rs),RsOk b s → RsOk b (plG b bits k acc s).2 ∧ (plG b bits k acc s).1.length ≤ acc.length + (b.length - s.1) + 1
  | 0,acc,s,h => ⟨h,by show acc.length ≤ _;omega⟩
  | k + 1,acc,s,h => by
    rw [plG]
    split
    · exact ⟨h,by show acc.length ≤ _;omega⟩
    · have hs:=tmF_rs (bits:=bits) h
      have:=plG_rs (bits:=bits) k (acc ++ [(tmF b bits s).1]) _ hs
      rw [List.length_append,List.length_singleton] at this
      refine ⟨this.1, ?_⟩
      by_cases he : (tmF b bits s).2.2 = 0
      · have h5:=tmF_ok he
        have:=hs.1
        omega
      · rw [plG_err he]
        show (acc ++ [(tmF b bits s).1]).length ≤ _
        rw [List.length_append,List.length_singleton]
        omega
theorem plS_rs (b : List UInt8) (T : Int) (p : Nat) : RsOk b (plS b T p):=by
  unfold plS
  by_cases h : (vget b p).2.2 = 0
  · have h1:=vget_end h
    refine ⟨h1.2.2, ?_⟩
    simp only
    split <;> omega
  · have h1:=vget_err h
    refine ⟨by show (vget b p).2.1 ≤ _;omega, ?_⟩
    simp only
    split <;> omega
theorem plF_rs {b : List UInt8} {T bits : Int} {s : Rs} (h : RsOk b s) : RsOk b (plF b T bits s).2 ∧ (plF b T bits s).1.length ≤ b.length + 1:=by
  unfold plF
  split
  · exact ⟨h,by show 0 ≤ _;omega⟩
  · have:=plG_rs (bits:=bits) (vget b s.1).1 [] (plS b T s.1) (plS_rs b T s.1)
    rw [(frm_val _ _).1]
    exact ⟨frm_rs this.1,by have h2:=this.2;simp at h2;omega⟩
def shT (t : Txt) : Prop:=t.length < 9223372036854775808
theorem decQ_sh {q : Rat} (hq : qb 40000000 q) : shT (decQ q):=by
  have h1:=hq.1
  have h2:=hq.2
  have l1:=decZ_len q.num
  have l2:=dec_len q.den
  unfold shT decQ
  split
  · omega
  · rw [List.length_append,List.length_cons];omega
theorem qget_qb {b : List UInt8} {a bits : Int} (hb : b.length < 100000000) : qb 40000000 (qget b a bits).1:=(qget_rs b a bits).2.mono (by omega)
theorem raF_sh {b : List UInt8} {bits : Int} {s : Rs} (hb : b.length < 100000000) : shT (raF b bits s).1:=by
  unfold raF
  split
  · show 0 < _;omega
  · exact decQ_sh (qget_qb hb)
theorem prF_sh {b : List UInt8} {bits : Int} {s : Rs} (hb : b.length < 100000000) : shT (prF b bits s).1.1 ∧ shT (prF b bits s).1.2:=⟨raF_sh hb,raF_sh hb⟩
theorem bxG_sh {b : List UInt8} {bits : Int} (hb : b.length < 100000000) : ∀ (k : Nat) (acc : List (Txt × Txt)) (s : Rs),(∀ p ∈ acc,shT p.1 ∧ shT p.2) → ∀ p ∈ (bxG b bits k acc s).1,shT p.1 ∧ shT p.2
  | 0,acc,s,h => h
  | k + 1,acc,s,h => by
    rw [bxG]
    split
    · exact h
    · refine bxG_sh hb k _ _ fun p hp => ?_
      rcases List.mem_append.1 hp with hp | hp
      · exact h p hp
      · obtain rfl:=List.mem_singleton.1 hp
        exact prF_sh hb
theorem bxF_sh {b : List UInt8} {bits : Int} (hb : b.length < 100000000) (n : Nat) (s : Rs) : ∀ p ∈ (bxF b bits n s).1,shT p.1 ∧ shT p.2:=by
  unfold bxF
  rw [(frm_val _ _).1]
  exact bxG_sh hb n [] s fun p hp => by cases hp
theorem plG_sh {b : List UInt8} {bits : Int} (hb : b.length < 100000000) : ∀ (k : Nat) (acc : List Tm) (s : Rs),(∀ p ∈ acc,shT p.2) → ∀ p ∈ (plG b bits k acc s).1,shT p.2
  | 0,acc,s,h => h
  | k + 1,acc,s,h => by
    rw [plG]
    split
    · exact h
    · refine plG_sh hb k _ _ fun p hp => ?_
      rcases List.mem_append.1 hp with hp | hp
      · exact h p hp
      · obtain rfl:=List.mem_singleton.1 hp
        exact raF_sh hb
theorem plF_sh {b : List UInt8} {T bits : Int} (hb : b.length < 100000000) (s : Rs) : ∀ p ∈ (plF b T bits s).1,shT p.2:=by
  unfold plF
  split
  · exact fun p hp => by cases hp
  · rw [(frm_val _ _).1]
    exact plG_sh hb _ [] _ fun p hp => by cases hp

end Go.Proofs.YtakaojkfipnfcaaGreatDoor.Lv
