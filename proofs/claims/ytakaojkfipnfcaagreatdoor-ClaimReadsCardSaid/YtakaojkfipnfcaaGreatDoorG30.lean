/- The document's claimRest. Reading a claim: the program's and the document's. The same claim; law ClaimReads. What the row's list gives: the library's table, as the engine reads it. -/
import Derived.Test.YtakaojkfipnfcaaGreatDoorG29
import Derived.Test.YtakaojkfipnfcaaGreatDoorG28
import Derived.Test.YtakaojkfipnfcaaGreatDoorG10
import Derived.Lib.LaidTab
set_option linter.unusedVariables false
set_option linter.unusedSimpArgs false
set_option maxRecDepth 100000
set_option maxHeartbeats 4000000
namespace Go.Proofs.YtakaojkfipnfcaaGreatDoor.Lv
open Go Go.RowKit
theorem r2_claimRest {b : Txt} {l : Lm} {k n : Nat} {F : List (List Tm)} {B : List (Txt × Txt)} {p : Nat} (hb : b.length < 100000) (hl : l.ok) (hp : p ≤ b.length) (hk : k ≤ 5) (hn : B.length = n) (hn1 : 1 ≤ n) (hn3 : n ≤ 3) (hF : F.length ≤ 3) (hF2 : ∀ t ∈ F,shP t) (hB : shB B) :
    C E 80 [.str b, .int .i64 p,clN k F B,lmD l] (cgD (fnV zeroC (frm opnB (rsC b l k n F B (p,0))))):=by
  refine CG_intro Tryz.func80 rfl (by kernel_rfl) rfl (by kernel_rfl) (by kernel_rfl) rfl ?_
  unfold cgD
  have hC : rsC b l k n F B (p,0) = rsC b l k n F B (p,0):=rfl
  conv at hC => rhs;unfold rsC
  have e6 : rs6 b l k (p,0) = if k = 2 then prF b l.b (p,0) else (([],[]),(p,0)):=rfl
  have e7 : rs7 b l k (p,0) = cnF b 1 8 (rs6 b l k (p,0)).2:=rfl
  have e8 : rs8 b l k (p,0) = tsG b l.b (rs7 b l k (p,0)).1 [] (rs7 b l k (p,0)).2:=rfl
  have e9 : rs9 b l k n (p,0) = esG b l.b n (rs7 b l k (p,0)).1 [] (rs8 b l k (p,0)).2:=rfl
  generalize rsC b l k n F B (p,0) = res at *
  generalize rs9 b l k n (p,0) = x9 at *
  generalize rs8 b l k (p,0) = x8 at *
  generalize rs7 b l k (p,0) = x7 at *
  generalize rs6 b l k (p,0) = x6 at *
  by_cases c2 : k = 2
  · rw [if_neg (by omega)] at hC
    rw [if_pos c2] at e6
    have g:=r2_GetPair (b:=b) (l:=l) (a:=p) (by omega) hl hp
    have hrs:=prF_rs (b:=b) (bits:=l.b) (s:=(p,0)) ⟨hp,by show 0 < 18;omega⟩
    have hsh:=prF_sh (b:=b) (bits:=l.b) (s:=(p,0)) (by omega)
    rw [← e6] at g hrs hsh
    obtain ⟨⟨ra,rb⟩,⟨p6,q6⟩⟩:=x6
    obtain ⟨o1,o2⟩:=hrs
    simp only at o1 o2 hsh hC
    unfold gprD at g
    by_cases he : q6 = 0
    case neg =>
      rw [fnV_err he] at g
      rw [hC,frm_err (by exact he),fnV_err (by exact he)]
      simp (disch:=first|exact dd|fail) only [go_sem,seval,clN,lmD]
      refine cA g ?_
      simp (disch:=first|exact dd|fail) only [go_sem,seval]
      exact LeV_zero _
    subst he
    rw [fnV_ok rfl] at g
    have hok : (⟨k,F,B,(ra,rb),[],[]⟩ : Cl).ok:=⟨by show -9223372036854775808 ≤ ((k : Nat) : Int) ∧ ((k : Nat) : Int) ≤ 9223372036854775807;omega,⟨by show F.length < _;omega,hF2⟩,hB,hsh,⟨by show 0 < _;omega,fun t ht => nomatch ht⟩,⟨by show 0 < _;omega,fun t ht => nomatch ht⟩⟩
    obtain ⟨v,⟨hv,hst⟩,hO⟩:=r2_Open_B hok
    have hv2:=cl_two hv
    simp (disch:=first|exact dd|fail) only [go_sem,seval,clN,lmD]
    refine cA g ?_
    simp (disch:=first|exact dd|fail) only [go_sem,seval]
    cases ho : opnB (⟨k,F,B,(ra,rb),[],[]⟩ : Cl) with
    | true =>
      rw [ho] at hO
      rw [hC,frm_ok ho,fnV_ok rfl]
      refine callC hO ?_ (hv2 true) ?_
      · simp (disch:=first|exact dd|fail) only [go_sem,seval]
        exact LesV.cons (LeV_clN _ _ _ (ra,rb)) LesV.nil
      by_cases hf : flat v = true
      all_goals
        simp (disch:=first|exact dd|fail) only [go_sem,seval,flat,flats,hf]
        exact ⟨hst _,LeV_out (LeV_clN _ _ _ (ra,rb)) _ _⟩
    | false =>
      rw [ho] at hO
      rw [hC,frm_no rfl ho,fnV_err (by simp)]
      refine callC hO ?_ (hv2 false) ?_
      · simp (disch:=first|exact dd|fail) only [go_sem,seval]
        exact LesV.cons (LeV_clN _ _ _ (ra,rb)) LesV.nil
      by_cases hf : flat v = true
      all_goals
        simp (disch:=first|exact dd|fail) only [go_sem,seval,flat,flats,hf]
        exact ⟨hst _,LeV_zero _⟩
  rw [if_neg c2] at e6
  subst e6
  by_cases c5 : k = 5
  case neg =>
    rw [if_neg c5] at hC
    have hok : (⟨k,F,B,([],[]),[],[]⟩ : Cl).ok:=⟨by show -9223372036854775808 ≤ ((k : Nat) : Int) ∧ ((k : Nat) : Int) ≤ 9223372036854775807;omega,⟨by show F.length < _;omega,hF2⟩,hB,⟨by show 0 < _;omega,by show 0 < _;omega⟩,⟨by show 0 < _;omega,fun t ht => nomatch ht⟩,⟨by show 0 < _;omega,fun t ht => nomatch ht⟩⟩
    obtain ⟨v,⟨hv,hst⟩,hO⟩:=r2_Open_B hok
    have hv2:=cl_two hv
    simp (disch:=first|exact dd|fail) only [go_sem,seval,clN,lmD]
    cases ho : opnB (⟨k,F,B,([],[]),[],[]⟩ : Cl) with
    | true =>
      rw [ho] at hO
      rw [hC,frm_ok ho,fnV_ok rfl]
      refine callC hO ?_ (hv2 true) ?_
      · simp (disch:=first|exact dd|fail) only [go_sem,seval]
        exact LesV.cons (LeV_clN _ _ _ ([],[])) LesV.nil
      by_cases hf : flat v = true
      all_goals
        simp (disch:=first|exact dd|fail) only [go_sem,seval,flat,flats,hf]
        exact ⟨hst _,LeV_out (LeV_clN _ _ _ ([],[])) _ _⟩
    | false =>
      rw [ho] at hO
      rw [hC,frm_no rfl ho,fnV_err (by simp)]
      refine callC hO ?_ (hv2 false) ?_
      · simp (disch:=first|exact dd|fail) only [go_sem,seval]
        exact LesV.cons (LeV_clN _ _ _ ([],[])) LesV.nil
      by_cases hf : flat v = true
      all_goals
        simp (disch:=first|exact dd|fail) only [go_sem,seval,flat,flats,hf]
        exact ⟨hst _,LeV_zero _⟩
  rw [if_pos c5] at hC
  have k7:=r2_count (b:=b) (p:=p) (lo:=1) (hi:=8) (by omega) (by omega) (by omega)
  have k7z:=cnF_zero (b:=b) (p:=p) (lo:=1) (hi:=8)
  have k7le:=cnF_le (b:=b) (lo:=1) (hi:=8) (s:=(p,0))
  simp only at e7
  rw [← e7] at k7 k7z k7le
  obtain ⟨m,q7⟩:=x7
  obtain ⟨p7,w7⟩:=q7
  simp only at k7 k7z k7le e8 e9
  by_cases he : w7 = 0
  case neg =>
    have h8 : x8.2 = (p7,w7):=by rw [e8];exact tsG_err _ _ _ he
    have h9 : x9.2 = (p7,w7):=by rw [e9,h8];exact esG_err _ _ _ he
    rw [hC,frm_err (by show x9.2.2 ≠ 0;rw [h9];exact he),fnV_err (by show x9.2.2 ≠ 0;rw [h9];exact he),h9]
    simp (disch:=first|exact dd|fail) only [go_sem,seval,clN,lmD]
    refine cA k7 ?_
    simp (disch:=first|exact dd|fail) only [go_sem,seval]
    exact LeV_zero _
  subst he
  obtain ⟨q1,q2,q3⟩:=k7z rfl
  obtain rfl : p7 = p + 1:=by cases q1;rfl
  clear q1 k7z
  simp (disch:=first|exact dd|fail) only [go_sem,seval,clN,lmD]
  refine cA k7 ?_
  simp (disch:=first|exact dd|fail) only [go_sem,seval]
  clear k7
  refine AL.ofW (fun x : List Txt × Nat => tsG b l.b m [] (p + 1,0) = tsG b l.b (m - x.1.length) x.1 (x.2,0) ∧ x.1.length ≤ m ∧ x.2 ≤ b.length ∧ ∀ t ∈ x.1,shT t) (fun x => m - x.1.length)
    (fun x => [(0, .str b),(1, .int .i64 x.2),(6, .ad 0 0),(7, .ad 1 0),(8, .ad 2 0),(14, .int .i64 m),(16, .int .i64 x.1.length)])
    (fun x => [(0, .var true 7 (.agg [.int .i64 k,fsD F,txD B, .str [], .str [], .sl 3 x.1.length 0 x.1.length, .nils])),(1, .var true 5 (lmD l)),(2, .var true 7 clZ),(3, .row false x.1.length false 1 x.1.length (tR x.1))]) ([],p + 1)
    (Wk.nilV 0 5 false 1 (fun _ => .unk) rfl rfl (Nat.le_refl _)) (Nat.le_succ _) ⟨rfl,Nat.zero_le _,q2,fun t ht => nomatch ht⟩ ?_ ?_ ?_ ?_
  · simp (disch:=first|exact dd|fail) only [go_sem,seval,List.length_nil]
    try exact LeV.refl _
  · simp (disch:=first|exact dd|fail) only [go_sem,seval,lmD,clZ,List.length_nil,List.set_cons_succ,List.set_cons_zero]
    all_goals first | exact fun j hj => absurd hj (by omega) | exact ⟨LeV.refl _,fun j hj => absurd hj (by omega)⟩ | exact ⟨LeV.refl _,LeV.refl _,fun j hj => absurd hj (by omega)⟩
  · intro x _;simp (disch:=first|exact dd|fail) only [go_sem,seval,lmD,clZ]
  rintro ⟨acc,s⟩ ⟨h1,h2,h3,h4⟩
  simp only at h1 h2 h3 h4
  have hlb:=hl.1
  by_cases hkm : acc.length = m
  case neg =>
    have hg:=r2_GetRat (b:=b) (a:=(s : Int)) (bits:=l.b) (by omega) hlb (by omega)
    have ht:=ref_RatText (qget_qb (b:=b) (a:=(s : Int)) (bits:=l.b) (by omega))
    have ho:=(qget_rs b (s : Int) l.b).1
    have hr : raF b l.b (s,0) = (decQ (qget b (s : Int) l.b).1,(qget b (s : Int) l.b).2):=by unfold raF;rw [if_neg (by simp)]
    have hsh : shT (raF b l.b (s,0)).1:=raF_sh (by omega)
    have hnx : tsG b l.b (m - acc.length) acc (s,0) = tsG b l.b (m - acc.length - 1) (acc ++ [(raF b l.b (s,0)).1]) (raF b l.b (s,0)).2:=by
      conv => lhs;rw [show m - acc.length = (m - acc.length - 1) + 1 by omega,tsG]
    rw [hr] at hnx hsh
    have hap:=fun (j : Nat) => tR_app (acc:=acc) (t:=decQ (qget b (s : Int) l.b).1) (j:=j)
    have hal : ∀ p : Txt,(acc ++ [p]).length = acc.length + 1:=fun p => by rw [List.length_append,List.length_singleton]
    clear hr
    generalize qget b (s : Int) l.b = x at *
    obtain ⟨q,p1,e1⟩:=x
    obtain ⟨o1,o2⟩:=ho
    simp only at o1 o2 ht hnx hap hsh
    unfold rqgD at hg
    by_cases he : e1 = 0
    case neg =>
      have h8 : x8.2 = (p1,e1):=by rw [e8,h1,hnx];exact tsG_err _ _ _ he
      have h9 : x9.2 = (p1,e1):=by rw [e9,h8];exact esG_err _ _ _ he
      rw [hC,frm_err (by show x9.2.2 ≠ 0;rw [h9];exact he),fnV_err (by show x9.2.2 ≠ 0;rw [h9];exact he),h9]
      simp only [he,if_false] at hg
      unfold rr00 at hg
      clear hC h8 h9 e8 e9 hap
      simp (disch:=first|exact dd|fail) only [go_sem,seval,lmD,clZ]
      refine cA hg ?_
      simp (disch:=first|exact dd|fail) only [go_sem,seval]
      exact LeV_zero _
    subst he
    simp only [if_true] at hg
    clear hC e8 e9
    simp (disch:=first|exact dd|fail) only [go_sem,seval,lmD,clZ]
    refine cA hg ?_
    simp (disch:=first|exact dd|fail) only [go_sem,seval]
    refine cL ht ?_
    simp (disch:=first|exact dd|fail) only [go_sem,seval]
    refine ⟨.inl trivial, .inr trivial,by omega,by omega,(acc ++ [decQ q],p1),⟨by rw [h1,hnx,hal,Nat.sub_sub],by show (acc ++ [decQ q]).length ≤ m;rw [hal];omega,o1,snoc_mem h4 hsh⟩,by show m - (acc ++ [decQ q]).length < m - acc.length;rw [hal];omega, ?_, ?_⟩
    · simp (disch:=first|exact dd|fail) only [go_sem,seval,hal]
      try exact LeV.refl _
    · simp (disch:=first|exact dd|fail) only [go_sem,seval,lmD,clZ,hal]
      all_goals first | exact fun j hj => hap j (by omega) | exact ⟨LeV.refl _,fun j hj => hap j (by omega)⟩ | exact ⟨LeV.refl _,LeV.refl _,fun j hj => hap j (by omega)⟩
  have hst : x8 = (acc,(s,0)):=by rw [e8,h1,hkm,Nat.sub_self];rfl
  subst hst
  simp only at e9 hC
  have hTs:=h4
  clear e8 h1 h2 h4 q2
  generalize acc = T at *
  subst hkm
  have hps:=h3
  clear h3
  simp (disch:=first|exact dd|fail) only [go_sem,seval,lmD,clZ]
  refine AL.ofW (fun x : List (List (Txt × Txt)) × Nat => esG b l.b n T.length [] (s,0) = esG b l.b n (T.length - x.1.length) x.1 (x.2,0) ∧ x.1.length ≤ T.length ∧ x.2 ≤ b.length ∧ ∀ t ∈ x.1,shB t) (fun x => T.length - x.1.length)
    (fun x => [(0, .str b),(1, .int .i64 x.2),(6, .ad 0 0),(7, .ad 1 0),(8, .ad 2 0),(14, .int .i64 T.length),(20, .int .i64 x.1.length)])
    (fun x => [(0, .var true 7 (.agg [.int .i64 k,fsD F,txD B, .str [], .str [], .sl 3 T.length 0 T.length, .sl 4 x.1.length 0 x.1.length])),(1, .var true 5 (lmD l)),(2, .var true 7 clZ),(3, .row false T.length false 1 T.length (tR T)),(4, .row false x.1.length false 1 x.1.length (esR x.1))]) ([],s)
    (Wk.nilV 0 6 false 1 (fun _ => .unk) rfl rfl (Nat.le_refl _)) (Nat.le_succ _) ⟨rfl,Nat.zero_le _,hps,fun t ht => nomatch ht⟩ ?_ ?_ ?_ ?_
  · simp (disch:=first|exact dd|fail) only [go_sem,seval,List.length_nil]
    try exact LeV.refl _
  · simp (disch:=first|exact dd|fail) only [go_sem,seval,lmD,clZ,List.length_nil,List.set_cons_succ,List.set_cons_zero]
    all_goals first | exact ⟨fun _ _ => trivial,fun j hj => absurd hj (by omega)⟩ | exact ⟨LeV.refl _,fun _ _ => trivial,fun j hj => absurd hj (by omega)⟩ | exact ⟨LeV.refl _,LeV.refl _,fun _ _ => trivial,fun j hj => absurd hj (by omega)⟩
  · intro x _;simp (disch:=first|exact dd|fail) only [go_sem,seval,lmD,clZ]
  rintro ⟨acc,s'⟩ ⟨h1,h2,h3,h4⟩
  simp only at h1 h2 h3 h4
  by_cases hke : acc.length = T.length
  case neg =>
    have hg:=r2_GetBox (b:=b) (l:=l) (a:=(s' : Int)) (n:=(B.length : Int)) (by omega) hl (by unfold I6;omega) (by unfold I6;omega)
    have hr : gbV b l (s' : Int) (B.length : Int) = fnV [] (bxF b l.b n (s',0)):=by
      unfold gbV
      rw [if_neg (by omega),Int.toNat_natCast,Int.toNat_natCast,hn]
    rw [hr] at hg
    have ho:=(bxF_rs (b:=b) (bits:=l.b) (n:=n) (s:=(s',0)) ⟨h3,by show 0 < 18;omega⟩).1
    have hsh:=bxF_shB (b:=b) (bits:=l.b) (n:=n) (s:=(s',0)) hb ⟨h3,by show 0 < 18;omega⟩ hn3
    have hnx : esG b l.b n (T.length - acc.length) acc (s',0) = esG b l.b n (T.length - acc.length - 1) (acc ++ [(bxF b l.b n (s',0)).1]) (bxF b l.b n (s',0)).2:=by
      conv => lhs;rw [show T.length - acc.length = (T.length - acc.length - 1) + 1 by omega,esG]
    have hap:=fun (j : Nat) => esR_app (acc:=acc) (t:=(bxF b l.b n (s',0)).1) (j:=j)
    have hal : ∀ p : List (Txt × Txt),(acc ++ [p]).length = acc.length + 1:=fun p => by rw [List.length_append,List.length_singleton]
    have htB : txD B = .ro true 2 B.length (txR B):=rfl
    clear hr
    generalize bxF b l.b n (s',0) = x at *
    obtain ⟨t,p1,e1⟩:=x
    obtain ⟨o1,o2⟩:=ho
    simp only at o1 o2 hnx hap hsh
    unfold gbD at hg
    by_cases he : e1 = 0
    case neg =>
      have h9 : x9.2 = (p1,e1):=by rw [e9,h1,hnx];exact esG_err _ _ _ he
      rw [hC,frm_err (by show x9.2.2 ≠ 0;rw [h9];exact he),fnV_err (by show x9.2.2 ≠ 0;rw [h9];exact he),h9]
      rw [fnV_err (by exact he)] at hg
      clear hC h9 e9 hap
      simp (disch:=first|exact dd|fail) only [go_sem,seval,lmD,clZ,htB]
      refine cA hg ?_
      simp (disch:=first|exact dd|fail) only [go_sem,seval]
      exact LeV_zero _
    subst he
    rw [fnV_ok rfl] at hg
    clear hC e9
    simp (disch:=first|exact dd|fail) only [go_sem,seval,lmD,clZ,htB]
    refine cA hg ?_
    simp (disch:=first|exact dd|fail) only [go_sem,seval]
    refine ⟨.inl trivial, .inr trivial,by omega,by omega,(acc ++ [t],p1),⟨by rw [h1,hnx,hal,Nat.sub_sub],by show (acc ++ [t]).length ≤ T.length;rw [hal];omega,o1,snoc_mem h4 hsh⟩,by show T.length - (acc ++ [t]).length < T.length - acc.length;rw [hal];omega, ?_, ?_⟩
    · simp (disch:=first|exact dd|fail) only [go_sem,seval,hal]
      try exact LeV.refl _
    · simp (disch:=first|exact dd|fail) only [go_sem,seval,lmD,clZ,hal]
      all_goals first | exact ⟨fun _ _ => trivial,fun j hj => hap j (by omega)⟩ | exact ⟨LeV.refl _,fun _ _ => trivial,fun j hj => hap j (by omega)⟩ | exact ⟨LeV.refl _,LeV.refl _,fun _ _ => trivial,fun j hj => hap j (by omega)⟩
  have hst : x9 = (acc,(s',0)):=by rw [e9,h1,hke,Nat.sub_self];rfl
  subst hst
  simp only at hC
  clear e9 h1 h2
  have hok : (⟨k,F,B,([],[]),T,acc⟩ : Cl).ok:=⟨by show -9223372036854775808 ≤ ((k : Nat) : Int) ∧ ((k : Nat) : Int) ≤ 9223372036854775807;omega,⟨by show F.length < _;omega,hF2⟩,hB,⟨by show 0 < _;omega,by show 0 < _;omega⟩,⟨by show T.length < _;omega,hTs⟩,⟨by show acc.length < _;omega,h4⟩⟩
  obtain ⟨v,⟨hv,hst⟩,hO⟩:=r2_Open_B hok
  have hv2:=cl_two hv
  simp (disch:=first|exact dd|fail) only [go_sem,seval,lmD,clZ]
  cases ho : opnB (⟨k,F,B,([],[]),T,acc⟩ : Cl) with
  | true =>
    rw [ho] at hO
    rw [hC,frm_ok ho,fnV_ok rfl]
    refine callC hO ?_ (hv2 true) ?_
    · simp (disch:=first|exact dd|fail) only [go_sem,seval]
      exact LesV.cons (LeV_clE _ _ _ ([],[]) _ _) LesV.nil
    by_cases hf : flat v = true
    all_goals
      simp (disch:=first|exact dd|fail) only [go_sem,seval,flat,flats,hf]
      exact ⟨hst _,LeV_out (LeV_clE _ _ _ ([],[]) _ _) _ _⟩
  | false =>
    rw [ho] at hO
    rw [hC,frm_no rfl ho,fnV_err (by simp)]
    refine callC hO ?_ (hv2 false) ?_
    · simp (disch:=first|exact dd|fail) only [go_sem,seval]
      exact LesV.cons (LeV_clE _ _ _ ([],[]) _ _) LesV.nil
    by_cases hf : flat v = true
    all_goals
      simp (disch:=first|exact dd|fail) only [go_sem,seval,flat,flats,hf]
      exact ⟨hst _,LeV_zero _⟩
def rcV (b : Txt) (l : Lm) (a : Int) : Cl × Rs:=if a < 0 ∨ (b.length : Int) < a then (zeroC,(0,1)) else fnV zeroC (clF b l (a.toNat,0))
theorem rsC_err {b : Txt} {l : Lm} {k n : Nat} {F : List (List Tm)} {B : List (Txt × Txt)} {s : Rs} (h : s.2 ≠ 0) : (rsC b l k n F B s).2 = s:=by
  have h6 : (rs6 b l k s).2 = s:=by
    unfold rs6
    split
    · rw [prF_err h]
    · rfl
  have h7 : (rs7 b l k s).2 = s:=by unfold rs7;rw [h6,cnF_err h]
  have h8 : (rs8 b l k s).2 = s:=by unfold rs8;rw [h7,tsG_err _ _ _ h]
  have h9 : (rs9 b l k n s).2 = s:=by unfold rs9;rw [h8,esG_err _ _ _ h]
  unfold rsC
  split
  · exact h9
  · exact h6
theorem fin_err {b : Txt} {l : Lm} {k n : Nat} {F : List (List Tm)} {B : List (Txt × Txt)} {s : Rs} (h : s.2 ≠ 0) : frm opnB (rsC b l k n F B s) = rsC b l k n F B s ∧ fnV zeroC (frm opnB (rsC b l k n F B s)) = (zeroC,(0,s.2)):=by
  have h1 : frm opnB (rsC b l k n F B s) = rsC b l k n F B s:=frm_err (by rw [rsC_err h];exact h)
  refine ⟨h1, ?_⟩
  rw [h1,fnV_err (by rw [rsC_err h];exact h),rsC_err h]
theorem c5_err {b : Txt} {l : Lm} {s : Rs} (h : (cF4 b l s).2.2 ≠ 0) : (cF5 b l s).2 = (cF4 b l s).2:=by unfold cF5;exact psG_err _ _ _ h
theorem c4_err {b : Txt} {l : Lm} {s : Rs} (h : (cF3 b l s).2.2 ≠ 0) : (cF4 b l s).2 = (cF3 b l s).2:=by unfold cF4;rw [cnF_err h]
theorem c3_err {b : Txt} {l : Lm} {s : Rs} (h : (cF2 b s).2.2 ≠ 0) : (cF3 b l s).2 = (cF2 b s).2:=by unfold cF3;rw [bxF_err h]
theorem c2_err {b : Txt} {s : Rs} (h : (cF1 b s).2.2 ≠ 0) : (cF2 b s).2 = (cF1 b s).2:=by unfold cF2;rw [cnF_err h]
theorem clF_err {b : Txt} {l : Lm} {s : Rs} (h : s.2 ≠ 0) : (clF b l s).2 = s:=by
  have h1 : (cF1 b s).2 = s:=by unfold cF1;rw [cnF_err h]
  have h2 : (cF2 b s).2 = s:=by rw [c2_err (by rw [h1];exact h),h1]
  have h3 : (cF3 b l s).2 = s:=by rw [c3_err (by rw [h2];exact h),h2]
  have h4 : (cF4 b l s).2 = s:=by rw [c4_err (by rw [h3];exact h),h3]
  have h5 : (cF5 b l s).2 = s:=by rw [c5_err (by rw [h4];exact h),h4]
  unfold clF
  rw [clC_rs,h5,(fin_err h).1,rsC_err h]
theorem bxG_len {b : Txt} {bits : Int} : ∀ (k : Nat) (acc : List (Txt × Txt)) (s : Rs),(bxG b bits k acc s).2.2 = 0 → (bxG b bits k acc s).1.length = acc.length + k
  | 0,acc,s,h => rfl
  | k + 1,acc,s,h => by
    rw [bxG] at h ⊢
    by_cases he : s.2 ≠ 0
    · rw [if_pos he] at h;exact absurd h he
    · rw [if_neg he] at h ⊢
      rw [bxG_len k _ _ h,List.length_append,List.length_singleton]
      omega
theorem bxF_len {b : Txt} {bits : Int} {n : Nat} {s : Rs} (h : (bxF b bits n s).2.2 = 0) : (bxF b bits n s).1.length = n:=by
  unfold bxF at h ⊢
  obtain ⟨h1,h2,_⟩:=frm_zero h
  rw [h1,bxG_len n [] s h2]
  simp
theorem claim_Read {b : Txt} {l : Lm} {a : Int} (hb : b.length < 100000) (hl : l.ok) (ha : I6 a) : C E 36 [.str b, .int .i64 a,lmD l] (cgD (rcV b l a)):=by
  refine CG_intro Tryz.func36 rfl (by kernel_rfl) rfl (by kernel_rfl) (by kernel_rfl) rfl ?_
  unfold cgD
  unfold I6 at ha
  by_cases hA : a < 0 ∨ (b.length : Int) < a
  · have hf:=claim_from0 (l:=l) (b:=b) (by omega) hA
    have hv : rcV b l a = (zeroC,(0,1)):=by unfold rcV;rw [if_pos hA]
    have hx:=in_claim (b:=[]) (l:=lm0) (s:=(0,1)) ⟨Nat.zero_le _,by show 1 < 18;omega⟩ (by simp) ⟨⟨by decide,by decide⟩,⟨by decide,by decide⟩⟩
    rw [clF_err (by simp)] at hx
    rw [hv]
    simp (disch:=first|exact dd|fail) only [go_sem,seval,lmD]
    refine callG [] hf rfl rfl (LesV.refl _) rfl ?_
    simp (disch:=first|exact dd|fail) only [go_sem,seval,rdB,lm0]
    refine callG [3] hx rfl rfl (LesV.refl _) rfl ?_
    simp (disch:=first|exact dd|fail) only [go_sem,seval,rdH,rdB,lm0]
    refine AReg_anyL 8 [0,1,2,3,4,5,6,7] rfl rfl (by decide +kernel) ?_
    refine AAny_free 0 [1,2,3,4,5,6,7] (by decide +kernel) rfl ?_
    refine AI_at _ rfl ?_
    simp (disch:=first|exact dd|fail) only [go_sem,seval]
    refine AAny_free 1 [2,3,4,5,6,7] (by decide +kernel) rfl ?_
    refine AI_at _ rfl ?_
    simp (disch:=first|exact dd|fail) only [go_sem,seval]
    refine AAny_free 2 [3,4,5,6,7] (by decide +kernel) rfl ?_
    refine AI_at _ rfl ?_
    simp (disch:=first|exact dd|fail) only [go_sem,seval]
    refine AAny_free 3 [4,5,6,7] (by decide +kernel) rfl ?_
    refine AI_at _ rfl ?_
    simp (disch:=first|exact dd|fail) only [go_sem,seval]
    refine AAny_step [(4,[5,6,7]),(5,[4,6,7])] (by decide +kernel) rfl ?_
    refine forall_more ?_ ?_
    · refine AI_at _ rfl ?_
      simp (disch:=first|exact dd|fail) only [go_sem,seval]
      refine AAny_free 5 [6,7] (by decide +kernel) rfl ?_
      refine AI_at _ rfl ?_
      simp (disch:=first|exact dd|fail) only [go_sem,seval]
      refine AAny_free 6 [7] (by decide +kernel) rfl ?_
      refine AI_at _ rfl ?_
      simp (disch:=first|exact dd|fail) only [go_sem,seval]
      refine AAny_free 7 [] (by decide +kernel) rfl ?_
      refine AI_at _ rfl ?_
      simp (disch:=first|exact dd|fail) only [go_sem,seval]
      refine AAny_end ?_
      simp (disch:=first|exact dd|fail) only [go_sem,seval]
      exact LeV_zero _
    refine forall_one ?_
    refine AI_at _ rfl ?_
    simp (disch:=first|exact dd|fail) only [go_sem,seval]
    refine AAny_free 4 [6,7] (by decide +kernel) rfl ?_
    refine AI_at _ rfl ?_
    simp (disch:=first|exact dd|fail) only [go_sem,seval]
    refine AAny_free 6 [7] (by decide +kernel) rfl ?_
    refine AI_at _ rfl ?_
    simp (disch:=first|exact dd|fail) only [go_sem,seval]
    refine AAny_free 7 [] (by decide +kernel) rfl ?_
    refine AI_at _ rfl ?_
    simp (disch:=first|exact dd|fail) only [go_sem,seval]
    refine AAny_end ?_
    simp (disch:=first|exact dd|fail) only [go_sem,seval]
    exact LeV_zero _
  have hf:=claim_from (l:=l) (b:=b) (a:=a) (by omega) (by omega) (by omega)
  have hs0 : RsOk b (a.toNat,0):=⟨by show a.toNat ≤ _;omega,by show 0 < 18;omega⟩
  have hv : rcV b l a = fnV zeroC (clF b l (a.toNat,0)):=by unfold rcV;rw [if_neg hA]
  rw [hv]
  have hx:=in_claim (l:=l) hs0 hb hl
  have hr:=(clF_ok (l:=l) hb hs0).2
  generalize clF b l (a.toNat,0) = x at *
  obtain ⟨r,p,e⟩:=x
  obtain ⟨r1,r2⟩:=hr
  simp only at r1 r2
  simp (disch:=first|exact dd|fail) only [go_sem,seval,lmD]
  refine callG [] hf rfl rfl (LesV.refl _) rfl ?_
  simp (disch:=first|exact dd|fail) only [go_sem,seval,rdB]
  refine callG [3] hx rfl rfl (LesV.refl _) rfl ?_
  by_cases he : e = 0
  · subst he
    rw [fnV_ok rfl]
    simp (disch:=first|exact dd|fail) only [go_sem,seval,rdH,rdB]
    refine AReg_anyL 8 [0,1,2,3,4,5,6,7] rfl rfl (by decide +kernel) ?_
    refine AAny_free 0 [1,2,3,4,5,6,7] (by decide +kernel) rfl ?_
    refine AI_at _ rfl ?_
    simp (disch:=first|exact dd|fail) only [go_sem,seval]
    refine AAny_free 1 [2,3,4,5,6,7] (by decide +kernel) rfl ?_
    refine AI_at _ rfl ?_
    simp (disch:=first|exact dd|fail) only [go_sem,seval]
    refine AAny_free 2 [3,4,5,6,7] (by decide +kernel) rfl ?_
    refine AI_at _ rfl ?_
    simp (disch:=first|exact dd|fail) only [go_sem,seval]
    refine AAny_free 3 [4,5,6,7] (by decide +kernel) rfl ?_
    refine AI_at _ rfl ?_
    simp (disch:=first|exact dd|fail) only [go_sem,seval]
    refine AAny_step [(4,[5,6,7]),(5,[4,6,7])] (by decide +kernel) rfl ?_
    refine forall_more ?_ ?_
    · refine AI_at _ rfl ?_
      simp (disch:=first|exact dd|fail) only [go_sem,seval]
      refine AAny_free 5 [6,7] (by decide +kernel) rfl ?_
      refine AI_at _ rfl ?_
      simp (disch:=first|exact dd|fail) only [go_sem,seval]
      refine AAny_free 6 [7] (by decide +kernel) rfl ?_
      refine AI_at _ rfl ?_
      simp (disch:=first|exact dd|fail) only [go_sem,seval]
      refine AAny_free 7 [] (by decide +kernel) rfl ?_
      refine AI_at _ rfl ?_
      simp (disch:=first|exact dd|fail) only [go_sem,seval]
      refine AAny_end ?_
      simp (disch:=first|exact dd|fail) only [go_sem,seval]
      try exact LeV.refl _
    refine forall_one ?_
    refine AI_at _ rfl ?_
    simp (disch:=first|exact dd|fail) only [go_sem,seval]
    refine AAny_free 4 [6,7] (by decide +kernel) rfl ?_
    refine AI_at _ rfl ?_
    simp (disch:=first|exact dd|fail) only [go_sem,seval]
    refine AAny_free 6 [7] (by decide +kernel) rfl ?_
    refine AI_at _ rfl ?_
    simp (disch:=first|exact dd|fail) only [go_sem,seval]
    refine AAny_free 7 [] (by decide +kernel) rfl ?_
    refine AI_at _ rfl ?_
    simp (disch:=first|exact dd|fail) only [go_sem,seval]
    refine AAny_end ?_
    simp (disch:=first|exact dd|fail) only [go_sem,seval]
    try exact LeV.refl _
  · rw [fnV_err he]
    simp (disch:=first|exact dd|fail) only [go_sem,seval,rdH,rdB]
    refine AReg_anyL 8 [0,1,2,3,4,5,6,7] rfl rfl (by decide +kernel) ?_
    refine AAny_free 0 [1,2,3,4,5,6,7] (by decide +kernel) rfl ?_
    refine AI_at _ rfl ?_
    simp (disch:=first|exact dd|fail) only [go_sem,seval]
    refine AAny_free 1 [2,3,4,5,6,7] (by decide +kernel) rfl ?_
    refine AI_at _ rfl ?_
    simp (disch:=first|exact dd|fail) only [go_sem,seval]
    refine AAny_free 2 [3,4,5,6,7] (by decide +kernel) rfl ?_
    refine AI_at _ rfl ?_
    simp (disch:=first|exact dd|fail) only [go_sem,seval]
    refine AAny_free 3 [4,5,6,7] (by decide +kernel) rfl ?_
    refine AI_at _ rfl ?_
    simp (disch:=first|exact dd|fail) only [go_sem,seval]
    refine AAny_step [(4,[5,6,7]),(5,[4,6,7])] (by decide +kernel) rfl ?_
    refine forall_more ?_ ?_
    · refine AI_at _ rfl ?_
      simp (disch:=first|exact dd|fail) only [go_sem,seval]
      refine AAny_free 5 [6,7] (by decide +kernel) rfl ?_
      refine AI_at _ rfl ?_
      simp (disch:=first|exact dd|fail) only [go_sem,seval]
      refine AAny_free 6 [7] (by decide +kernel) rfl ?_
      refine AI_at _ rfl ?_
      simp (disch:=first|exact dd|fail) only [go_sem,seval]
      refine AAny_free 7 [] (by decide +kernel) rfl ?_
      refine AI_at _ rfl ?_
      simp (disch:=first|exact dd|fail) only [go_sem,seval]
      refine AAny_end ?_
      simp (disch:=first|exact dd|fail) only [go_sem,seval]
      exact LeV_zero _
    refine forall_one ?_
    refine AI_at _ rfl ?_
    simp (disch:=first|exact dd|fail) only [go_sem,seval]
    refine AAny_free 4 [6,7] (by decide +kernel) rfl ?_
    refine AI_at _ rfl ?_
    simp (disch:=first|exact dd|fail) only [go_sem,seval]
    refine AAny_free 6 [7] (by decide +kernel) rfl ?_
    refine AI_at _ rfl ?_
    simp (disch:=first|exact dd|fail) only [go_sem,seval]
    refine AAny_free 7 [] (by decide +kernel) rfl ?_
    refine AI_at _ rfl ?_
    simp (disch:=first|exact dd|fail) only [go_sem,seval]
    refine AAny_end ?_
    simp (disch:=first|exact dd|fail) only [go_sem,seval]
    exact LeV_zero _
theorem r2_ReadClaim {b : Txt} {l : Lm} {a : Int} (hb : b.length < 100000) (hl : l.ok) (ha : I6 a) : C E 37 [.str b, .int .i64 a,lmD l] (cgD (rcV b l a)):=by
  refine CG_intro Tryz.func37 rfl (by kernel_rfl) rfl (by kernel_rfl) (by kernel_rfl) rfl ?_
  unfold cgD
  unfold I6 at ha
  by_cases hA : a < 0 ∨ (b.length : Int) < a
  · rw [show rcV b l a = (zeroC,(0,1)) by unfold rcV;rw [if_pos hA]]
    by_cases q : a < 0
    · simp (disch:=first|exact dd|fail) only [go_sem,seval,lmD]
      exact LeV_zero _
    · simp (disch:=first|exact dd|fail) only [go_sem,seval,lmD]
      exact LeV_zero _
  rw [show rcV b l a = fnV zeroC (clF b l (a.toNat,0)) by unfold rcV;rw [if_neg hA]]
  obtain ⟨p,rfl⟩:=Int.eq_ofNat_of_zero_le (show 0 ≤ a by omega)
  simp only [Int.ofNat_eq_natCast,Int.toNat_natCast] at *
  have hp : p ≤ b.length:=by omega
  have hq : ¬ ((p : Int) < 0):=by omega
  clear hA
  have g:=stg l hb (s:=(p,0)) ⟨hp,by show 0 < 18;omega⟩
  have hF : clF b l (p,0) = frm opnB (rsC b l (cF1 b (p,0)).1 (cF2 b (p,0)).1 (cF5 b l (p,0)).1 (cF3 b l (p,0)).1 (cF5 b l (p,0)).2):=rfl
  have k1:=r2_count (b:=b) (p:=p) (lo:=1) (hi:=5) (by omega) (by omega) (by omega)
  have z1:=cnF_zero (b:=b) (p:=p) (lo:=1) (hi:=5)
  rw [show cnF b 1 5 (p,0) = cF1 b (p,0) from rfl] at k1 z1
  have e2 : cF2 b (p,0) = cnF b 1 3 (cF1 b (p,0)).2:=rfl
  have e3 : cF3 b l (p,0) = bxF b l.b (cF2 b (p,0)).1 (cF2 b (p,0)).2:=rfl
  have e4 : cF4 b l (p,0) = cnF b 1 3 (cF3 b l (p,0)).2:=rfl
  have e5 : cF5 b l (p,0) = psG b l (cF4 b l (p,0)).1 [] (cF4 b l (p,0)).2:=rfl
  have w2:=c2_err (b:=b) (s:=(p,0))
  have w3:=c3_err (b:=b) (l:=l) (s:=(p,0))
  have w4:=c4_err (b:=b) (l:=l) (s:=(p,0))
  have w5:=c5_err (b:=b) (l:=l) (s:=(p,0))
  obtain ⟨s1,s2,s3,s4,s5,s6,s7,s8,s9,n1,n2,n4,n7,hB,hFF,hR,hT,hE⟩:=g
  clear s6 s7 s8 s9 n7 hR hT hE
  generalize clF b l (p,0) = res at *
  generalize cF5 b l (p,0) = x5 at *
  generalize cF4 b l (p,0) = x4 at *
  generalize cF3 b l (p,0) = x3 at *
  generalize cF2 b (p,0) = x2 at *
  generalize cF1 b (p,0) = x1 at *
  have hbad : ∀ e : Rs,x5.2 = e → e.2 ≠ 0 → fnV zeroC res = (zeroC,(0,e.2)):=fun e h h2 => by rw [hF,(fin_err (by rw [h];exact h2)).2,h]
  have hcv : cgD (fnV zeroC res) = cgD (fnV zeroC (frm opnB (rsC b l x1.1 x2.1 x5.1 x3.1 x5.2))):=by rw [hF]
  clear hF
  obtain ⟨k,q1⟩:=x1
  obtain ⟨v1,c1⟩:=q1
  simp only at k1 z1 w2 e2 n1
  by_cases he : c1 = 0
  case neg =>
    have h2:=w2 he
    have h3:=(w3 (by rw [h2];exact he)).trans h2
    have h4:=(w4 (by rw [h3];exact he)).trans h3
    have h5:=(w5 (by rw [h4];exact he)).trans h4
    rw [hbad _ h5 he]
    simp (disch:=first|exact dd|fail) only [go_sem,seval,lmD]
    refine cA k1 ?_
    simp (disch:=first|exact dd|fail) only [go_sem,seval]
    exact LeV_zero _
  subst he
  obtain ⟨q1,q2,q3⟩:=z1 rfl
  obtain rfl : v1 = p + 1:=by cases q1;rfl
  clear q1 z1 w2
  have k2:=r2_count (b:=b) (p:=p + 1) (lo:=1) (hi:=3) (by omega) (by omega) (by omega)
  have z2:=cnF_zero (b:=b) (p:=p + 1) (lo:=1) (hi:=3)
  rw [← e2] at k2 z2
  clear e2
  obtain ⟨n,q1⟩:=x2
  obtain ⟨v1,c1⟩:=q1
  simp only at k2 z2 w3 e3 n2
  by_cases he : c1 = 0
  case neg =>
    have h3:=w3 he
    have h4:=(w4 (by rw [h3];exact he)).trans h3
    have h5:=(w5 (by rw [h4];exact he)).trans h4
    rw [hbad _ h5 he]
    simp (disch:=first|exact dd|fail) only [go_sem,seval,lmD]
    refine cA k1 ?_
    simp (disch:=first|exact dd|fail) only [go_sem,seval]
    refine cA k2 ?_
    simp (disch:=first|exact dd|fail) only [go_sem,seval]
    exact LeV_zero _
  subst he
  obtain ⟨q1,q4,q5⟩:=z2 rfl
  obtain rfl : v1 = p + 1 + 1:=by cases q1;rfl
  clear q1 z2 w3
  have k3:=r2_GetBox (b:=b) (l:=l) (a:=((p : Nat) : Int) + 2) (n:=(n : Int)) (by omega) hl (by unfold I6;omega) (by unfold I6;omega)
  rw [show gbV b l (((p : Nat) : Int) + 2) (n : Int) = fnV [] x3 by
    unfold gbV
    rw [if_neg (by omega),Int.toNat_natCast,show (((p : Nat) : Int) + 2).toNat = p + 1 + 1 by omega,← e3]] at k3
  have l3:=bxF_len (b:=b) (bits:=l.b) (n:=n) (s:=(p + 1 + 1,0))
  rw [← e3] at l3
  clear e3
  unfold gbD at k3
  obtain ⟨B,q1⟩:=x3
  obtain ⟨v3,c1⟩:=q1
  obtain ⟨s3,o3⟩:=s3
  simp only at k3 w4 e4 s3 o3 l3 hB
  by_cases he : c1 = 0
  case neg =>
    have h4:=w4 he
    have h5:=(w5 (by rw [h4];exact he)).trans h4
    rw [hbad _ h5 he]
    rw [fnV_err (by exact he)] at k3
    simp (disch:=first|exact dd|fail) only [go_sem,seval,lmD]
    refine cA k1 ?_
    simp (disch:=first|exact dd|fail) only [go_sem,seval]
    refine cA k2 ?_
    simp (disch:=first|exact dd|fail) only [go_sem,seval]
    refine cA k3 ?_
    simp (disch:=first|exact dd|fail) only [go_sem,seval]
    exact LeV_zero _
  subst he
  rw [fnV_ok rfl] at k3
  have l3:=l3 rfl
  have k4:=r2_count (b:=b) (p:=v3) (lo:=1) (hi:=3) (by omega) (by omega) (by omega)
  have z4:=cnF_zero (b:=b) (p:=v3) (lo:=1) (hi:=3)
  rw [← e4] at k4 z4
  clear e4 w4
  obtain ⟨m,q1⟩:=x4
  obtain ⟨v1,c1⟩:=q1
  simp only at k4 z4 w5 e5 n4
  by_cases he : c1 = 0
  case neg =>
    have h5:=w5 he
    rw [hbad _ h5 he]
    simp (disch:=first|exact dd|fail) only [go_sem,seval,lmD]
    refine cA k1 ?_
    simp (disch:=first|exact dd|fail) only [go_sem,seval]
    refine cA k2 ?_
    simp (disch:=first|exact dd|fail) only [go_sem,seval]
    refine cA k3 ?_
    simp (disch:=first|exact dd|fail) only [go_sem,seval]
    refine cA k4 ?_
    simp (disch:=first|exact dd|fail) only [go_sem,seval]
    exact LeV_zero _
  subst he
  obtain ⟨q1,q6,q7⟩:=z4 rfl
  obtain rfl : v1 = v3 + 1:=by cases q1;rfl
  clear q1 z4 w5
  simp (disch:=first|exact dd|fail) only [go_sem,seval,lmD]
  refine cA k1 ?_
  simp (disch:=first|exact dd|fail) only [go_sem,seval]
  refine cA k2 ?_
  simp (disch:=first|exact dd|fail) only [go_sem,seval]
  refine cA k3 ?_
  simp (disch:=first|exact dd|fail) only [go_sem,seval]
  refine cA k4 ?_
  simp (disch:=first|exact dd|fail) only [go_sem,seval]
  clear k1 k2 k3 k4
  refine AL.ofW (fun x : List (List Tm) × Nat => psG b l m [] (v3 + 1,0) = psG b l (m - x.1.length) x.1 (x.2,0) ∧ x.1.length ≤ m ∧ x.2 ≤ b.length ∧ ∀ t ∈ x.1,shP t) (fun x => m - x.1.length)
    (fun x => [(0, .str b),(5, .ad 0 0),(6, .ad 1 0),(13, .ad 2 0),(15, .int .i64 x.2),(17, .int .i64 m),(19, .int .i64 x.1.length)])
    (fun x => [(0, .var true 5 (lmD l)),(1, .var true 7 clZ),(2, .var true 7 (.agg [.int .i64 k, .sl 3 x.1.length 0 x.1.length,txD B, .str [], .str [], .nils, .nils])),(3, .row false x.1.length false 1 x.1.length (fsR x.1))]) ([],v3 + 1)
    (Wk.nilV 2 1 false 1 (fun _ => .unk) rfl rfl (Nat.le_refl _)) (Nat.le_succ _) ⟨rfl,Nat.zero_le _,q6,fun t ht => nomatch ht⟩ ?_ ?_ ?_ ?_
  · simp (disch:=first|exact dd|fail) only [go_sem,seval,List.length_nil]
    try exact LeV.refl _
  · simp (disch:=first|exact dd|fail) only [go_sem,seval,lmD,clZ,List.length_nil,List.set_cons_succ,List.set_cons_zero]
    all_goals first | exact fun j hj => absurd hj (by omega) | exact ⟨LeV.refl _,fun j hj => absurd hj (by omega)⟩ | exact ⟨LeV.refl _,LeV.refl _,fun j hj => absurd hj (by omega)⟩
  · intro x _;simp (disch:=first|exact dd|fail) only [go_sem,seval,lmD,clZ]
  rintro ⟨acc,s⟩ ⟨h1,h2,h3,h4⟩
  simp only at h1 h2 h3 h4
  by_cases hkm : acc.length = m
  case neg =>
    have hg:=r2_GetPoly (b:=b) (l:=l) (a:=(s : Int)) (by omega) hl (by unfold I6;omega)
    rw [show gpV b l (s : Int) = fnV [] (plF b l.t l.b (s,0)) by unfold gpV;rw [if_neg (by omega),Int.toNat_natCast]] at hg
    have ho:=(plF_rs (b:=b) (T:=l.t) (bits:=l.b) (s:=(s,0)) ⟨h3,by show 0 < 18;omega⟩).1
    have hsh:=plF_shP (b:=b) (l:=l) (s:=(s,0)) hb ⟨h3,by show 0 < 18;omega⟩
    have hnx : psG b l (m - acc.length) acc (s,0) = psG b l (m - acc.length - 1) (acc ++ [(plF b l.t l.b (s,0)).1]) (plF b l.t l.b (s,0)).2:=by
      conv => lhs;rw [show m - acc.length = (m - acc.length - 1) + 1 by omega,psG]
    have hap:=fun (j : Nat) => fsR_app (acc:=acc) (t:=(plF b l.t l.b (s,0)).1) (j:=j)
    have hal : ∀ p : List Tm,(acc ++ [p]).length = acc.length + 1:=fun p => by rw [List.length_append,List.length_singleton]
    generalize plF b l.t l.b (s,0) = x at *
    obtain ⟨t,p1,e1⟩:=x
    obtain ⟨o1,o2⟩:=ho
    simp only at o1 o2 hnx hap hsh
    unfold gpD at hg
    by_cases he : e1 = 0
    case neg =>
      have h5 : x5.2 = (p1,e1):=by rw [e5,h1,hnx];exact psG_err _ _ _ he
      rw [hbad _ h5 he]
      rw [fnV_err (by exact he)] at hg
      clear hbad hcv h5 e5 hap
      simp (disch:=first|exact dd|fail) only [go_sem,seval,lmD,clZ]
      refine cA hg ?_
      simp (disch:=first|exact dd|fail) only [go_sem,seval]
      exact LeV_zero _
    subst he
    rw [fnV_ok rfl] at hg
    clear hbad hcv e5
    simp (disch:=first|exact dd|fail) only [go_sem,seval,lmD,clZ]
    refine cA hg ?_
    simp (disch:=first|exact dd|fail) only [go_sem,seval]
    refine ⟨.inl trivial, .inr trivial,by omega,by omega,(acc ++ [t],p1),⟨by rw [h1,hnx,hal,Nat.sub_sub],by show (acc ++ [t]).length ≤ m;rw [hal];omega,o1,snoc_mem h4 hsh⟩,by show m - (acc ++ [t]).length < m - acc.length;rw [hal];omega, ?_, ?_⟩
    · simp (disch:=first|exact dd|fail) only [go_sem,seval,hal]
      try exact LeV.refl _
    · simp (disch:=first|exact dd|fail) only [go_sem,seval,lmD,clZ,hal]
      all_goals first | exact fun j hj => hap j (by omega) | exact ⟨LeV.refl _,fun j hj => hap j (by omega)⟩ | exact ⟨LeV.refl _,LeV.refl _,fun j hj => hap j (by omega)⟩
  have hst : x5 = (acc,(s,0)):=by rw [e5,h1,hkm,Nat.sub_self];rfl
  subst hst
  clear e5 hbad h1
  subst hkm
  have hc:=r2_claimRest (k:=k) (n:=n) (F:=acc) (B:=B) (p:=s) hb hl h3 (by omega) l3 (by omega) (by omega) (by omega) h4 hB
  rw [← hcv] at hc
  unfold cgD at hc
  clear hcv
  simp (disch:=first|exact dd|fail) only [go_sem,seval,lmD,clZ]
  refine callC hc ?_ rfl ?_
  · simp (disch:=first|exact dd|fail) only [go_sem,seval]
    exact LesV.refl _
  simp (disch:=first|exact dd|fail) only [go_sem,seval]
  try exact LeV.refl _
theorem book_SameTexts (l : List Txt) (hl : l.length < 1073741824) : C E 64 [tlD l,tlD l] (.bool true):=by
  refine CG_intro Tryz.func64 rfl (by kernel_rfl) rfl (by kernel_rfl) (by kernel_rfl) rfl ?_
  have hd : tlD l = .ro false 1 l.length (tR l):=rfl
  simp (disch:=first|exact dd|fail) only [go_sem,seval,hd]
  refine AL.of (fun i : Nat => i ≤ l.length) (fun i => l.length - i) (fun i => [(0,tlD l),(1,tlD l),(5, .int .i64 i)]) (fun _ => []) 0 (Nat.zero_le _) ?_ ?_ ?_ ?_
  · simp (disch:=first|exact dd|fail) only [go_sem,seval,hd]
    try exact LeV.refl _
  · simp (disch:=first|exact dd|fail) only [go_sem,seval]
  · intro x _;simp (disch:=first|exact dd|fail) only [go_sem,seval]
  intro i hi
  by_cases hil : i = l.length
  · subst hil
    simp (disch:=first|exact dd|fail) only [go_sem,seval,hd]
  · have hil' : i < l.length:=by omega
    have hp : tR l i = .str (l.getD i []):=rfl
    generalize l.getD i [] = t at *
    simp (disch:=first|exact dd|fail) only [go_sem,seval,hd,hp]
    refine ⟨i + 1,hil',by show l.length - (i + 1) < l.length - i;omega, ?_, ?_⟩
    · simp (disch:=first|exact dd|fail) only [go_sem,seval,hd]
      try exact LeV.refl _
    · simp (disch:=first|exact dd|fail) only [go_sem,seval]
theorem book_SameClaim {c : Cl} (hc : c.ok) : C E 22 [clD c,clD c] (.bool true):=by
  refine CG_intro Tryz.func22 rfl (by kernel_rfl) rfl (by kernel_rfl) (by kernel_rfl) rfl ?_
  have hB:=book_SamePairs c.B (by have:=hc.B.1;omega)
  have hT:=book_SameTexts c.T (by have:=hc.T.1;omega)
  have hFl:=hc.F.1
  have hEl:=hc.E.1
  have hFd : fsD c.F = .ro false 1 c.F.length (fsR c.F):=rfl
  have hEd : esD c.E = .ro false 1 c.E.length (esR c.E):=rfl
  simp (disch:=first|exact dd|fail) only [go_sem,seval,clD,hFd,hEd]
  refine cA hB ?_
  simp (disch:=first|exact dd|fail) only [go_sem,seval]
  refine cA hT ?_
  simp (disch:=first|exact dd|fail) only [go_sem,seval]
  refine AL.of (fun i : Nat => i ≤ c.F.length) (fun i => c.F.length - i) (fun i => [(2, .ad 0 0),(3, .ad 1 0),(5, .int .i64 i)]) (fun _ => [(0, .var true 7 (clD c)),(1, .var true 7 (clD c))]) 0 (Nat.zero_le _) ?_ ?_ ?_ ?_
  · simp (disch:=first|exact dd|fail) only [go_sem,seval]
    try exact LeV.refl _
  · simp (disch:=first|exact dd|fail) only [go_sem,seval,clD,hFd,hEd]
    try exact LeV.refl _
  · intro x _;simp (disch:=first|exact dd|fail) only [go_sem,seval]
  intro i hi
  by_cases hil : i = c.F.length
  case neg =>
    have hp : fsR c.F i = tmD (c.F.getD i []):=rfl
    have ht:=hc.F.2 _ (getD_mem' c.F i [] (by omega))
    have hS:=book_SameTerms (c.F.getD i []) (by have:=ht.1;omega)
    generalize c.F.getD i [] = t at *
    simp (disch:=first|exact dd|fail) only [go_sem,seval,clD,hFd,hEd,hp]
    refine cL hS ?_
    simp (disch:=first|exact dd|fail) only [go_sem,seval]
    refine ⟨i + 1,by omega,by show c.F.length - (i + 1) < c.F.length - i;omega, ?_, ?_⟩
    · simp (disch:=first|exact dd|fail) only [go_sem,seval]
      try exact LeV.refl _
    · simp (disch:=first|exact dd|fail) only [go_sem,seval,clD,hFd,hEd]
      try exact LeV.refl _
  subst hil
  simp (disch:=first|exact dd|fail) only [go_sem,seval,clD,hFd,hEd]
  refine AL.of (fun i : Nat => i ≤ c.E.length) (fun i => c.E.length - i) (fun i => [(2, .ad 0 0),(3, .ad 1 0),(6, .int .i64 i)]) (fun _ => [(0, .var true 7 (clD c)),(1, .var true 7 (clD c))]) 0 (Nat.zero_le _) ?_ ?_ ?_ ?_
  · simp (disch:=first|exact dd|fail) only [go_sem,seval]
    try exact LeV.refl _
  · simp (disch:=first|exact dd|fail) only [go_sem,seval,clD,hFd,hEd]
    try exact LeV.refl _
  · intro x _;simp (disch:=first|exact dd|fail) only [go_sem,seval]
  intro i hi
  by_cases hil : i = c.E.length
  case neg =>
    have hp : esR c.E i = txD (c.E.getD i []):=rfl
    have ht:=hc.E.2 _ (getD_mem' c.E i [] (by omega))
    have hS:=book_SamePairs (c.E.getD i []) (by have:=ht.1;omega)
    generalize c.E.getD i [] = t at *
    simp (disch:=first|exact dd|fail) only [go_sem,seval,clD,hFd,hEd,hp]
    refine cL hS ?_
    simp (disch:=first|exact dd|fail) only [go_sem,seval]
    refine ⟨i + 1,by omega,by show c.E.length - (i + 1) < c.E.length - i;omega, ?_, ?_⟩
    · simp (disch:=first|exact dd|fail) only [go_sem,seval]
      try exact LeV.refl _
    · simp (disch:=first|exact dd|fail) only [go_sem,seval,clD,hFd,hEd]
      try exact LeV.refl _
  subst hil
  simp (disch:=first|exact dd|fail) only [go_sem,seval,clD,hFd,hEd]
theorem rcV_ok {b : Txt} {l : Lm} {a : Int} (hb : b.length < 100000) : (rcV b l a).1.ok ∧ RsOk b (rcV b l a).2:=by
  unfold rcV
  split
  · exact ⟨zero_ok,Nat.zero_le _,by show 1 < 18;omega⟩
  · rename_i h
    have:=clF_ok (l:=l) hb (s:=(a.toNat,0)) ⟨by show a.toNat ≤ _;omega,by show 0 < 18;omega⟩
    unfold fnV
    split
    · exact this
    · exact ⟨zero_ok,Nat.zero_le _,this.2.2⟩
theorem law_ClaimReads {b : Txt} {a : Int} {l : Lm} (hb : b.length < 9223372036854775808) (ha : I6 a) (hl : l.ok) :
    C E 7 [.str b, .int .i64 a,lmD l] (.bool true):=by
  refine CG_intro Tryz.func7 rfl (by kernel_rfl) rfl (by kernel_rfl) (by kernel_rfl) rfl ?_
  have hA:=alive19
  simp (disch:=first|exact dd|fail) only [go_sem,seval]
  refine cA hA ?_
  by_cases h1 : 1500 < b.length
  · simp (disch:=first|exact dd|fail) only [go_sem,seval]
  simp (disch:=first|exact dd|fail) only [go_sem,seval]
  have c1:=claim_Read (b:=b) (l:=l) (by omega) hl ha
  have c2:=r2_ReadClaim (b:=b) (l:=l) (by omega) hl ha
  have hr:=rcV_ok (b:=b) (l:=l) (a:=a) (by omega)
  have c3:=book_SameClaim hr.1
  unfold cgD at c1 c2
  generalize rcV b l a = x at *
  obtain ⟨y,u,e⟩:=x
  simp only at c1 c2 c3
  refine cA c1 ?_
  simp (disch:=first|exact dd|fail) only [go_sem,seval]
  refine cA c2 ?_
  simp (disch:=first|exact dd|fail) only [go_sem,seval]
  refine cA c3 ?_
  simp (disch:=first|exact dd|fail) only [go_sem,seval]
theorem gTab : Tryz.prog.globalNamed "math/bits.deBruijn32tab" = some 0:=by kernel_rfl
theorem gTabType : (Tryz.prog.globals[0]?).map (·.type) = some 279:=by kernel_rfl
def kz : List Int:=deBr
def laidDat {H : Type} : List (String × DataW H):=[("math/bits.deBruijn32tab",Rows.laid_math_bits_deBruijn32tab)]
theorem rounds_tab {W : World} (h : laidMetH Tryz.prog laidDat W) : Lib.TabIs Tryz.prog W "math/bits.deBruijn32tab" .u8 kz:=
  Lib.tabIs_of_head (rest:=[]) gTab gTabType Tryz.underlying279 Tryz.underlying5 (by kernel_rfl) (by kernel_rfl) h
theorem laid_gok {W : World} (h : laidMetH Tryz.prog laidDat W) : GOK E (fun b => b < W.heap.size) W:=by
  intro g
  show Rep0 _ W (gv0 g) _
  unfold gv0 gvS gvB
  split
  · rename_i e
    subst e
    have hc:=fun i hi => (rounds_tab h).cell gTab i hi
    have hlen : kz.length = 32:=rfl
    simp only [Rep0,deBrD]
    refine ⟨_,0, .agg ⟨kz.map (Value.int .u8)⟩,kz.map (Value.int .u8),rfl,World.block_lt_of_cell? _ _ (hc 0 (by omega)),by simp [hlen],fun j x hj => ?_,rfl,kz.map (Value.int .u8),rfl, ?_⟩
    · rw [List.getElem?_map,Option.map_eq_some_iff] at hj
      obtain ⟨z,hz,rfl⟩:=hj
      obtain ⟨hlt,hz⟩:=List.getElem?_eq_some_iff.1 hz
      refine ⟨?_,rfl⟩
      rw [Nat.zero_add,hc j hlt,List.getD_eq_getElem?_getD,List.getElem?_eq_getElem hlt,hz]
      rfl
    · unfold kz
      generalize deBr = l
      induction l with
      | nil => simp [Rep0s]
      | cons x l ih =>
        simp only [List.map_cons,Rep0s]
        exact ⟨_,_,rfl,rfl,ih⟩
  · rfl
end Go.Proofs.YtakaojkfipnfcaaGreatDoor.Lv
