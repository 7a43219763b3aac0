/- GetBox, GetPoly: the program's; the document's pairs and boxes. The document's GetPoly. How great terms are; are they the same? Laws ClaimBoxes, ClaimPolys. Arguments: terms, limits. The document's Open. Reading a claim: what it comes to, in plain words. -/
import Derived.Test.YtakaojkfipnfcaaGreatDoorG27
import Derived.Test.YtakaojkfipnfcaaGreatDoorG13
import Derived.Test.YtakaojkfipnfcaaGreatDoorG21
import Derived.Test.YtakaojkfipnfcaaGreatDoorG19
import Derived.Test.YtakaojkfipnfcaaGreatDoorG26
set_option linter.unusedVariables false
set_option linter.unusedSimpArgs false
set_option maxRecDepth 100000
set_option maxHeartbeats 4000000
namespace Go.Proofs.YtakaojkfipnfcaaGreatDoor.Lv
open Go Go.RowKit
def fnV {α : Type} (d : α) (x : α × Rs) : α × Rs:=if x.2.2 = 0 then x else (d,(0,x.2.2))
theorem fnV_ok {α : Type} {d : α} {x : α × Rs} (h : x.2.2 = 0) : fnV d x = x:=if_pos h
theorem fnV_err {α : Type} {d : α} {x : α × Rs} (h : x.2.2 ≠ 0) : fnV d x = (d,(0,x.2.2)):=if_neg h
def gbV (b : Txt) (l : Lm) (a n : Int) : List (Txt × Txt) × Rs:=if n < 1 ∨ 3 < n ∨ a < 0 ∨ (b.length : Int) < a then ([],(0,1)) else fnV [] (bxF b l.b n.toNat (a.toNat,0))
def gbD (x : List (Txt × Txt) × Rs) : D:=.tup [txD x.1, .int .i64 x.2.1, .int .i64 x.2.2]
def gpV (b : Txt) (l : Lm) (a : Int) : List Tm × Rs:=if a < 0 ∨ (b.length : Int) < a then ([],(0,1)) else fnV [] (plF b l.t l.b (a.toNat,0))
def gpD (x : List Tm × Rs) : D:=.tup [tmD x.1, .int .i64 x.2.1, .int .i64 x.2.2]
theorem LeV_gb (e : Int) : LeV (.tup [.nils, .int .i64 0, .int .i64 e]) (.tup [txD [], .int .i64 0, .int .i64 e]):=LeV.tup (LesV.cons LeV.nils (LesV.refl _))
theorem LeV_gp (e : Int) : LeV (.tup [.nils, .int .i64 0, .int .i64 e]) (.tup [tmD [], .int .i64 0, .int .i64 e]):=LeV.tup (LesV.cons LeV.nils (LesV.refl _))
theorem claim_GetBox {b : Txt} {l : Lm} {a n : Int} (hb : b.length < 100000000) (hl : l.ok) (ha : I6 a) (hn : I6 n) : C E 27 [.str b, .int .i64 a, .int .i64 n,lmD l] (gbD (gbV b l a n)):=by
  refine CG_intro Tryz.func27 rfl (by kernel_rfl) rfl (by kernel_rfl) (by kernel_rfl) rfl ?_
  unfold gbD
  unfold I6 at ha hn
  by_cases hA : a < 0 ∨ (b.length : Int) < a
  · have hf:=claim_from0 (l:=l) hb hA
    have hv : gbV b l a n = ([],(0,1)):=by unfold gbV;rw [if_pos (by omega)]
    have hx:=in_box0 (b:=[]) (l:=lm0) (s:=(0,1)) ⟨Nat.zero_le _,by show 1 < 18;omega⟩ (by simp) (by simp) (n:=n) hn
    rw [hv]
    simp (disch:=first|exact dd|fail) only [go_sem,seval,lmD]
    refine callG [] hf rfl rfl (LesV.refl _) rfl ?_
    simp (disch:=first|exact dd|fail) only [go_sem,seval,rdB,lm0]
    by_cases q : n < 1
    · simp (disch:=first|exact dd|fail) only [go_sem,seval,rdB,lm0]
      refine callG [2] hx rfl rfl (LesV.refl _) rfl ?_
      simp (disch:=first|exact dd|fail) only [go_sem,seval,rdH,rdB,lm0]
      exact LeV_gb _
    · by_cases q2 : 3 < n
      · simp (disch:=first|exact dd|fail) only [go_sem,seval,rdB,lm0]
        refine callG [2] hx rfl rfl (LesV.refl _) rfl ?_
        simp (disch:=first|exact dd|fail) only [go_sem,seval,rdH,rdB,lm0]
        exact LeV_gb _
      · simp (disch:=first|exact dd|fail) only [go_sem,seval,rdB,lm0]
        refine callG [2] hx rfl rfl (LesV.refl _) rfl ?_
        simp (disch:=first|exact dd|fail) only [go_sem,seval,rdH,rdB,lm0]
        exact LeV_gb _
  have hf:=claim_from (l:=l) (a:=a) hb (by omega) (by omega)
  have hs0 : RsOk b (a.toNat,0):=⟨by show a.toNat ≤ _;omega,by show 0 < 18;omega⟩
  simp (disch:=first|exact dd|fail) only [go_sem,seval,lmD]
  refine callG [] hf rfl rfl (LesV.refl _) rfl ?_
  by_cases q : n < 1
  · have hx:=in_box0 (b:=b) (l:=l) (s:=(a.toNat,1)) ⟨hs0.1,by show 1 < 18;omega⟩ hb (by simp) (n:=n) hn
    have hv : gbV b l a n = ([],(0,1)):=by unfold gbV;rw [if_pos (by omega)]
    rw [hv]
    simp (disch:=first|exact dd|fail) only [go_sem,seval,rdB]
    refine callG [2] hx rfl rfl (LesV.refl _) rfl ?_
    simp (disch:=first|exact dd|fail) only [go_sem,seval,rdH,rdB]
    exact LeV_gb _
  by_cases q2 : 3 < n
  · have hx:=in_box0 (b:=b) (l:=l) (s:=(a.toNat,1)) ⟨hs0.1,by show 1 < 18;omega⟩ hb (by simp) (n:=n) hn
    have hv : gbV b l a n = ([],(0,1)):=by unfold gbV;rw [if_pos (by omega)]
    rw [hv]
    simp (disch:=first|exact dd|fail) only [go_sem,seval,rdB]
    refine callG [2] hx rfl rfl (LesV.refl _) rfl ?_
    simp (disch:=first|exact dd|fail) only [go_sem,seval,rdH,rdB]
    exact LeV_gb _
  have hv : gbV b l a n = fnV [] (bxF b l.b n.toNat (a.toNat,0)):=by unfold gbV;rw [if_neg (by omega)]
  rw [hv]
  have hx:=in_box (l:=l) hs0 hb hl (n:=n.toNat) (by omega)
  have hr:=bxF_rs (bits:=l.b) (n:=n.toNat) hs0
  rw [show ((n.toNat : Nat) : Int) = n by omega] at hx
  generalize bxF b l.b n.toNat (a.toNat,0) = x at *
  obtain ⟨r,p,e⟩:=x
  obtain ⟨⟨r1,r2⟩,r3⟩:=hr
  simp only at r1 r2 r3
  simp (disch:=first|exact dd|fail) only [go_sem,seval,rdB]
  refine callG [2] hx rfl rfl (LesV.refl _) rfl ?_
  by_cases he : e = 0
  · subst he
    rw [fnV_ok rfl]
    simp (disch:=first|exact dd|fail) only [go_sem,seval,rdH,rdB]
    try exact LeV.refl _
  · rw [fnV_err he]
    simp (disch:=first|exact dd|fail) only [go_sem,seval,rdH,rdB]
    exact LeV_gb _
def gprD (x : (Txt × Txt) × Rs) : D:=.tup [.agg [.str x.1.1, .str x.1.2], .int .i64 x.2.1, .int .i64 x.2.2]
theorem r2_GetPair {b : Txt} {l : Lm} {a : Nat} (hb : b.length < 100000000) (hl : l.ok) (ha : a ≤ b.length) : C E 71 [.str b, .int .i64 a,lmD l] (gprD (fnV ([],[]) (prF b l.b (a,0)))):=by
  refine CG_intro Tryz.func71 rfl (by kernel_rfl) rfl (by kernel_rfl) (by kernel_rfl) rfl ?_
  have g1:=r2_GetRat (b:=b) (a:=(a : Int)) (by omega) hl.1 hb
  have t1:=ref_RatText (qget_qb (b:=b) (a:=(a : Int)) (bits:=l.b) hb)
  have o1:=(qget_rs b (a : Int) l.b).1
  have hp : prF b l.b (a,0) = prF b l.b (a,0):=rfl
  conv at hp => rhs;unfold prF
  have hr : raF b l.b (a,0) = (decQ (qget b (a : Int) l.b).1,(qget b (a : Int) l.b).2):=by unfold raF;rw [if_neg (by simp)]
  rw [hr] at hp
  generalize prF b l.b (a,0) = res at *
  generalize qget b (a : Int) l.b = x at *
  obtain ⟨q1,p1,e1⟩:=x
  obtain ⟨o1,o2⟩:=o1
  simp only at o1 o2 hp t1
  unfold rqgD at g1
  unfold gprD
  by_cases he : e1 = 0
  case neg =>
    rw [raF_err (b:=b) (bits:=l.b) (s:=(p1,e1)) he] at hp
    subst hp
    rw [fnV_err he]
    simp only [he,if_false] at g1
    unfold rr00 at g1
    simp (disch:=first|exact dd|fail) only [go_sem,seval,lmD]
    refine cA g1 ?_
    simp (disch:=first|exact dd|fail) only [go_sem,seval]
    try exact LeV.refl _
  subst he
  have g2:=r2_GetRat (b:=b) (a:=(p1 : Int)) (by omega) hl.1 hb
  have t2:=ref_RatText (qget_qb (b:=b) (a:=(p1 : Int)) (bits:=l.b) hb)
  have o3:=(qget_rs b (p1 : Int) l.b).1
  have hr2 : raF b l.b (p1,0) = (decQ (qget b (p1 : Int) l.b).1,(qget b (p1 : Int) l.b).2):=by unfold raF;rw [if_neg (by simp)]
  rw [hr2] at hp
  generalize qget b (p1 : Int) l.b = x at *
  obtain ⟨q2,p2,e2⟩:=x
  obtain ⟨o3,o4⟩:=o3
  simp only at o3 o4 hp t2
  unfold rqgD at g2
  simp only [if_true] at g1
  subst hp
  simp (disch:=first|exact dd|fail) only [go_sem,seval,lmD]
  refine cA g1 ?_
  simp (disch:=first|exact dd|fail) only [go_sem,seval]
  by_cases he : e2 = 0
  case neg =>
    rw [fnV_err he]
    simp only [he,if_false] at g2
    unfold rr00 at g2
    refine cA g2 ?_
    simp (disch:=first|exact dd|fail) only [go_sem,seval]
    try exact LeV.refl _
  subst he
  rw [fnV_ok rfl]
  simp only [if_true] at g2
  refine cA g2 ?_
  simp (disch:=first|exact dd|fail) only [go_sem,seval]
  refine cL t1 ?_
  simp (disch:=first|exact dd|fail) only [go_sem,seval]
  refine cL t2 ?_
  simp (disch:=first|exact dd|fail) only [go_sem,seval]
  try exact LeV.refl _
theorem r2_GetBox {b : Txt} {l : Lm} {a n : Int} (hb : b.length < 100000000) (hl : l.ok) (ha : I6 a) (hn : I6 n) : C E 28 [.str b, .int .i64 a, .int .i64 n,lmD l] (gbD (gbV b l a n)):=by
  refine CG_intro Tryz.func28 rfl (by kernel_rfl) rfl (by kernel_rfl) (by kernel_rfl) rfl ?_
  unfold gbD
  unfold I6 at ha hn
  by_cases q : n < 1
  · have hv : gbV b l a n = ([],(0,1)):=by unfold gbV;rw [if_pos (by omega)]
    rw [hv]
    simp (disch:=first|exact dd|fail) only [go_sem,seval,lmD]
    exact LeV_gb _
  by_cases q2 : 3 < n
  · have hv : gbV b l a n = ([],(0,1)):=by unfold gbV;rw [if_pos (by omega)]
    rw [hv]
    simp (disch:=first|exact dd|fail) only [go_sem,seval,lmD]
    exact LeV_gb _
  by_cases q3 : a < 0
  · have hv : gbV b l a n = ([],(0,1)):=by unfold gbV;rw [if_pos (by omega)]
    rw [hv]
    simp (disch:=first|exact dd|fail) only [go_sem,seval,lmD]
    exact LeV_gb _
  by_cases q4 : (b.length : Int) < a
  · have hv : gbV b l a n = ([],(0,1)):=by unfold gbV;rw [if_pos (by omega)]
    rw [hv]
    simp (disch:=first|exact dd|fail) only [go_sem,seval,lmD]
    exact LeV_gb _
  have hv : gbV b l a n = fnV [] (bxF b l.b n.toNat (a.toNat,0)):=by unfold gbV;rw [if_neg (by omega)]
  rw [hv]
  obtain ⟨a,rfl⟩:=Int.eq_ofNat_of_zero_le (show 0 ≤ a by omega)
  obtain ⟨n,rfl⟩:=Int.eq_ofNat_of_zero_le (show 0 ≤ n by omega)
  simp only [Int.ofNat_eq_natCast,Int.toNat_natCast] at *
  have hF : bxF b l.b n (a,0) = frm (fun l => decide ((boxR l).2 = 0)) (bxG b l.b n [] (a,0)):=rfl
  generalize bxF b l.b n (a,0) = res at *
  simp (disch:=first|exact dd|fail) only [go_sem,seval,lmD]
  refine AL.ofN 11 true 2 (fun _ => .unk) (fun x : List (Txt × Txt) × Nat => bxG b l.b n [] (a,0) = bxG b l.b (n - x.1.length) x.1 (x.2,0) ∧ x.1.length ≤ n ∧ x.2 ≤ b.length ∧ ∀ p ∈ x.1,shT p.1 ∧ shT p.2) (fun x => n - x.1.length)
    (fun x => [(0, .str b),(1, .int .i64 x.2),(2, .int .i64 n),(7, .ad 0 0),(11, .sl 1 x.1.length 0 x.1.length),(12, .int .i64 x.1.length)])
    (fun x => [(0, .var true 5 (lmD l)),(1, .row false x.1.length true 2 x.1.length (txR x.1))]) ([],a) (by simp (disch:=first|exact dd|fail) only [go_sem,seval]) ⟨rfl,Nat.zero_le _,by show a ≤ _;omega,fun p hp => nomatch hp⟩ ?_ ?_ ?_ ?_
  · simp (disch:=first|exact dd|fail) only [go_sem,seval,List.length_nil]
    try exact LeV.refl _
  · simp (disch:=first|exact dd|fail) only [go_sem,seval,lmD,List.length_nil]
    exact fun j hj => absurd hj (by omega)
  · intro x _;simp (disch:=first|exact dd|fail) only [go_sem,seval]
  rintro ⟨acc,p⟩ ⟨h1,h2,h3,h4⟩
  simp only at h1 h2 h3 h4
  by_cases hk : acc.length = n
  · have hst : bxG b l.b n [] (a,0) = (acc,(p,0)):=by rw [h1,hk,Nat.sub_self];rfl
    rw [hst] at hF
    have hP:=ref_BoxParse (l:=acc) (by omega) h4
    by_cases ho : (boxR acc).2 = 0
    · rw [frm_ok (by simp [ho])] at hF
      subst hF
      rw [fnV_ok rfl]
      simp only [rboxD,if_pos ho] at hP
      simp (disch:=first|exact dd|fail) only [go_sem,seval]
      refine callC hP ?_ rfl ?_
      · simp (disch:=first|exact dd|fail) only [go_sem,seval]
        try exact LesV.refl _
      simp (disch:=first|exact dd|fail) only [go_sem,seval,ho]
      try exact LeV.refl _
    · rw [frm_no rfl (by simp [ho])] at hF
      subst hF
      rw [fnV_err (by simp)]
      simp only [rboxD,if_neg ho] at hP
      simp (disch:=first|exact dd|fail) only [go_sem,seval]
      refine callC hP ?_ rfl ?_
      · simp (disch:=first|exact dd|fail) only [go_sem,seval]
        try exact LesV.refl _
      simp (disch:=first|exact dd|fail) only [go_sem,seval,ho]
      exact LeV_gb _
  have hg:=r2_GetPair (l:=l) (a:=p) hb hl h3
  have hg2:=prF_rs (bits:=l.b) (s:=(p,0)) (b:=b) ⟨h3,by show 0 < 18;omega⟩
  have hg3:=prF_sh (bits:=l.b) (s:=(p,0)) hb
  have hnx : bxG b l.b (n - acc.length) acc (p,0) = bxG b l.b (n - acc.length - 1) (acc ++ [(prF b l.b (p,0)).1]) (prF b l.b (p,0)).2:=by
    conv => lhs;rw [show n - acc.length = (n - acc.length - 1) + 1 by omega,bxG,if_neg (by simp)]
  have hap:=fun (j : Nat) => txR_app (acc:=acc) (p:=(prF b l.b (p,0)).1) (j:=j)
  have hal : ∀ p : Txt × Txt,(acc ++ [p]).length = acc.length + 1:=fun p => by rw [List.length_append,List.length_singleton]
  generalize prF b l.b (p,0) = x at *
  obtain ⟨⟨t1,t2⟩,p2,e2⟩:=x
  obtain ⟨hg4,hg5⟩:=hg2
  simp only at hg3 hg4 hg5 hnx hap
  unfold gprD at hg
  simp (disch:=first|exact dd|fail) only [go_sem,seval,lmD]
  by_cases he : e2 = 0
  case neg =>
    rw [bxG_err (s:=(p2,e2)) he] at hnx
    rw [h1,hnx,frm_err he] at hF
    subst hF
    rw [fnV_err he] at hg ⊢
    refine cA hg ?_
    simp (disch:=first|exact dd|fail) only [go_sem,seval]
    exact LeV_gb _
  subst he
  rw [fnV_ok rfl] at hg
  refine cA hg ?_
  clear hF
  simp (disch:=first|exact dd|fail) only [go_sem,seval]
  refine ⟨.inl trivial, .inr trivial,by omega,by omega, ?_⟩
  refine ⟨(acc ++ [(t1,t2)],p2),⟨by rw [h1,hnx,hal,Nat.sub_sub],by show (acc ++ [(t1,t2)]).length ≤ n;rw [hal];omega,hg4, ?_⟩,by show n - (acc ++ [(t1,t2)]).length < n - acc.length;rw [hal];omega, ?_, ?_⟩
  · intro p hp
    rcases List.mem_append.1 hp with hp | hp
    · exact h4 p hp
    · obtain rfl:=List.mem_singleton.1 hp
      exact hg3
  · simp (disch:=first|exact dd|fail) only [go_sem,seval,hal]
    try exact LeV.refl _
  · simp (disch:=first|exact dd|fail) only [go_sem,seval,lmD,hal]
    try exact fun j hj => hap j (by omega)
theorem u8_self (x : UInt8) : UInt8.ofNat x.toNat = x:=by simp
theorem byF_at {b : Txt} {p : Nat} (h : p < b.length) : byF b (p,0) = ((b.getD p 0).toNat,(p + 1,0)):=by
  unfold byF
  rw [if_neg (by simp),if_neg (by show ¬ b.length ≤ p;omega)]
theorem byF_end {b : Txt} {p : Nat} (h : b.length ≤ p) : byF b (p,0) = (0,(p,4)):=by
  unfold byF
  rw [if_neg (by simp),if_pos h]
theorem tmF_short {b : Txt} {bits : Int} {p : Nat} (h : b.length < p + 3) : (tmF b bits (p,0)).2.2 = 4:=by
  unfold tmF
  simp only
  by_cases h1 : b.length ≤ p
  · rw [byF_end h1,byF_err (s:=(p,4)) (by simp),byF_err (s:=(p,4)) (by simp),raF_err (s:=(p,4)) (by simp)]
  rw [byF_at (by omega)]
  simp only
  by_cases h2 : b.length ≤ p + 1
  · rw [byF_end h2,byF_err (s:=(p + 1,4)) (by simp),raF_err (s:=(p + 1,4)) (by simp)]
  rw [byF_at (by omega)]
  simp only
  rw [byF_end (p:=p + 1 + 1) (by omega),raF_err (s:=(p + 1 + 1,4)) (by simp)]
theorem tmF_long {b : Txt} {bits : Int} {p : Nat} (h : p + 3 ≤ b.length) : tmF b bits (p,0) = (((b.getD p 0,b.getD (p + 1) 0,b.getD (p + 2) 0),decQ (qget b ((p + 3 : Nat) : Int) bits).1),(qget b ((p + 3 : Nat) : Int) bits).2):=by
  have hr : raF b bits (p + 3,0) = (decQ (qget b ((p + 3 : Nat) : Int) bits).1,(qget b ((p + 3 : Nat) : Int) bits).2):=by unfold raF;rw [if_neg (by simp)]
  unfold tmF
  rw [byF_at (b:=b) (p:=p) (by omega)]
  simp only
  rw [byF_at (b:=b) (p:=p + 1) (by omega)]
  simp only
  rw [byF_at (b:=b) (p:=p + 1 + 1) (by omega)]
  simp only
  rw [hr,u8_self,u8_self,u8_self]
theorem r2_GetPoly {b : Txt} {l : Lm} {a : Int} (hb : b.length < 100000) (hl : l.ok) (ha : I6 a) : C E 34 [.str b, .int .i64 a,lmD l] (gpD (gpV b l a)):=by
  refine CG_intro Tryz.func34 rfl (by kernel_rfl) rfl (by kernel_rfl) (by kernel_rfl) rfl ?_
  unfold gpD
  unfold I6 at ha
  have hG:=r2_Get b a ha (by omega)
  by_cases hA : a < 0 ∨ (b.length : Int) < a
  · have hv : gpV b l a = ([],(0,1)):=by unfold gpV;rw [if_pos hA]
    have he : vget b a = (0,0,1):=by unfold vget;rw [if_pos hA]
    rw [he] at hG
    unfold vgD at hG
    rw [hv]
    simp (disch:=first|exact dd|fail) only [go_sem,seval,lmD]
    refine cA hG ?_
    simp (disch:=first|exact dd|fail) only [go_sem,seval]
    exact LeV_gp _
  have hv : gpV b l a = fnV [] (plF b l.t l.b (a.toNat,0)):=by unfold gpV;rw [if_neg hA]
  rw [hv]
  obtain ⟨a,rfl⟩:=Int.eq_ofNat_of_zero_le (show 0 ≤ a by omega)
  simp only [Int.ofNat_eq_natCast,Int.toNat_natCast] at *
  have hF : plF b l.t l.b (a,0) = frm plOk (plG b l.b (vget b a).1 [] (plS b l.t a)):=by unfold plF;rw [if_neg (by simp)]
  generalize plF b l.t l.b (a,0) = res at *
  have hlt:=vget_lt b a
  have hSe : plS b l.t a = plS b l.t a:=rfl
  conv at hSe => rhs;unfold plS
  have hvr : (vget b a).2.1 ≤ b.length ∧ (vget b a).2.2 < 18:=by
    by_cases h : (vget b a).2.2 = 0
    · have:=vget_end h;omega
    · have:=vget_err h;omega
  generalize plS b l.t a = s1 at *
  generalize vget b a = x at *
  obtain ⟨N,p1,e1⟩:=x
  simp only at hF hSe hlt hvr
  unfold vgD at hG
  have hlt2:=hl.2
  unfold I6 at hlt2
  simp (disch:=first|exact dd|fail) only [go_sem,seval,lmD]
  refine cA hG ?_
  by_cases h1 : e1 = 0
  case neg =>
    rw [if_neg (by simp [h1])] at hSe
    subst hSe
    rw [plG_err h1,frm_err h1] at hF
    subst hF
    rw [fnV_err h1]
    simp (disch:=first|exact dd|fail) only [go_sem,seval]
    exact LeV_gp _
  subst h1
  by_cases h2 : max l.t 0 < (N : Int)
  case pos =>
    rw [if_pos ⟨rfl,h2⟩] at hSe
    subst hSe
    rw [plG_err (by simp),frm_err (by simp)] at hF
    subst hF
    rw [fnV_err (by simp)]
    simp (disch:=first|exact dd|fail) only [go_sem,seval]
    exact LeV_gp _
  rw [if_neg (by simp [h2])] at hSe
  subst hSe
  simp (disch:=first|exact dd|fail) only [go_sem,seval]
  refine AL.ofN 12 true 4 (fun _ => .unk) (fun x : List Tm × Nat => PlP b l N (p1,0) (x.1,(x.2,0))) (fun x => N - x.1.length)
    (fun x => [(0, .str b),(5, .ad 0 0),(9, .int .u64 N),(10, .int .i64 x.2),(12, .sl 1 x.1.length 0 x.1.length),(13, .int .u64 x.1.length)])
    (fun x => [(0, .var true 5 (lmD l)),(1, .row false x.1.length true 4 x.1.length (tmR x.1))]) ([],p1) (by simp (disch:=first|exact dd|fail) only [go_sem,seval]) ⟨rfl,Nat.zero_le _,⟨hvr.1,by show 0 < 18;omega⟩,(fun p hp => nomatch hp),Nat.zero_le _,fun _ => Nat.zero_le _⟩ ?_ ?_ ?_ ?_
  · simp (disch:=first|exact dd|fail) only [go_sem,seval,List.length_nil]
    try exact LeV.refl _
  · simp (disch:=first|exact dd|fail) only [go_sem,seval,lmD,List.length_nil]
    exact fun j hj => absurd hj (by omega)
  · intro x _;simp (disch:=first|exact dd|fail) only [go_sem,seval]
  rintro ⟨acc,p⟩ hP
  have h3:=hP.2.2.1
  have h5:=hP.2.2.2.2.1
  have hN:=hP.2.1
  have hfin:=hP.fin
  have hnx:=hP.next (by omega) rfl
  have hPP:=r2_polyOk (l:=acc) (by simp only at h5;omega) hP.2.2.2.1
  obtain ⟨r1,r2⟩:=h3
  simp only at r1 r2 h5 hN hfin hnx hP
  by_cases hk : acc.length = N
  case pos =>
    have hst:=hfin (.inl hk)
    rw [hst] at hF
    clear hfin hnx hP
    unfold poD at hPP
    cases ho : plOk acc with
    | true =>
      rw [frm_ok ho] at hF
      subst hF
      rw [fnV_ok rfl]
      have ho2 : okPl acc = true:=by unfold plOk at ho;simp at ho;exact ho.1
      rw [ho,if_pos ho2] at hPP
      simp (disch:=first|exact dd|fail) only [go_sem,seval]
      refine callC hPP ?_ rfl ?_
      · simp (disch:=first|exact dd|fail) only [go_sem,seval]
        try exact LesV.refl _
      simp (disch:=first|exact dd|fail) only [go_sem,seval]
      try exact LeV.refl _
    | false =>
      rw [frm_no rfl ho] at hF
      subst hF
      rw [fnV_err (by simp)]
      rw [ho] at hPP
      cases ho2 : okPl acc with
      | true =>
        rw [if_pos ho2] at hPP
        simp (disch:=first|exact dd|fail) only [go_sem,seval]
        refine callC hPP ?_ rfl ?_
        · simp (disch:=first|exact dd|fail) only [go_sem,seval]
          try exact LesV.refl _
        simp (disch:=first|exact dd|fail) only [go_sem,seval]
        exact LeV_gp _
      | false =>
        rw [if_neg (by rw [ho2];simp)] at hPP
        simp (disch:=first|exact dd|fail) only [go_sem,seval]
        refine callC hPP ?_ rfl ?_
        · simp (disch:=first|exact dd|fail) only [go_sem,seval]
          try exact LesV.refl _
        simp (disch:=first|exact dd|fail) only [go_sem,seval]
        exact LeV_gp _
  have hnx:=hnx (by omega)
  have hstop : (tmF b l.b (p,0)).2.2 ≠ 0 → fnV [] res = ([],(0,(tmF b l.b (p,0)).2.2)):=fun h => by
    have:=hnx.fin (.inr h)
    rw [hF,this,frm_err (x:=(acc ++ [(tmF b l.b (p,0)).1],(tmF b l.b (p,0)).2)) h]
    exact fnV_err (x:=(acc ++ [(tmF b l.b (p,0)).1],(tmF b l.b (p,0)).2)) h
  clear hfin hPP
  by_cases hs : b.length < p + 3
  case pos =>
    have ht:=tmF_short (bits:=l.b) hs
    rw [hstop (by rw [ht];simp),ht]
    clear hnx hF hstop hP
    simp (disch:=first|exact dd|fail) only [go_sem,seval]
    exact LeV_gp _
  have ht:=tmF_long (bits:=l.b) (p:=p) (b:=b) (by omega)
  rw [ht] at hnx hstop
  have hap:=fun (a b c : UInt8) (t : Txt) (j : Nat) => tmR_app (acc:=acc) (a:=a) (b:=b) (c:=c) (t:=t) (j:=j)
  have hal : ∀ p : Tm,(acc ++ [p]).length = acc.length + 1:=fun p => by rw [List.length_append,List.length_singleton]
  have g1:=r2_GetRat (b:=b) (a:=((p + 3 : Nat) : Int)) (bits:=l.b) (by omega) hl.1 (by omega)
  have t1:=ref_RatText (qget_qb (b:=b) (a:=((p + 3 : Nat) : Int)) (bits:=l.b) (by omega))
  have o1:=(qget_rs b ((p + 3 : Nat) : Int) l.b).1
  generalize qget b ((p + 3 : Nat) : Int) l.b = x at *
  obtain ⟨q,p2,e2⟩:=x
  obtain ⟨o1,o2⟩:=o1
  simp only at hnx hstop t1 o1 o2
  have ep : ((p + 3 : Nat) : Int) = (p : Int) + 3:=by omega
  rw [ep] at g1
  unfold rqgD at g1
  by_cases he : e2 = 0
  case neg =>
    rw [hstop he]
    clear hnx hF hstop hP
    simp only [he,if_false] at g1
    unfold rr00 at g1
    simp (disch:=first|exact dd|fail) only [go_sem,seval,lmD]
    refine cA g1 ?_
    simp (disch:=first|exact dd|fail) only [go_sem,seval]
    exact LeV_gp _
  subst he
  simp only [if_true] at g1
  clear hstop hF hP ht
  have i1 : ((p : Int)).toNat = p:=by omega
  have i2 : ((p : Int) + 1).toNat = p + 1:=by omega
  have i3 : ((p : Int) + 2).toNat = p + 2:=by omega
  have hj:=hap (b.getD p 0) (b.getD (p + 1) 0) (b.getD (p + 2) 0) (decQ q)
  simp (disch:=first|exact dd|fail) only [go_sem,seval,lmD]
  refine cA g1 ?_
  simp (disch:=first|exact dd|fail) only [go_sem,seval,i2,i3]
  refine cL t1 ?_
  simp (disch:=first|exact dd|fail) only [go_sem,seval]
  refine ⟨.inl trivial, .inr trivial,by omega,by omega, ?_⟩
  refine ⟨(acc ++ [((b.getD p 0,b.getD (p + 1) 0,b.getD (p + 2) 0),decQ q)],p2),hnx,by show N - (acc ++ [_]).length < N - acc.length;rw [hal];omega, ?_, ?_⟩
  · simp (disch:=first|exact dd|fail) only [go_sem,seval,hal]
    try exact LeV.refl _
  · simp (disch:=first|exact dd|fail) only [go_sem,seval,lmD,hal]
    try exact fun j h => hj j (by omega)
theorem book_SameTerms (l : List Tm) (hl : l.length < 1073741824) : C E 35 [tmD l,tmD l] (.bool true):=by
  refine CG_intro Tryz.func35 rfl (by kernel_rfl) rfl (by kernel_rfl) (by kernel_rfl) rfl ?_
  simp (disch:=first|exact dd|fail) only [go_sem,seval,tmD]
  refine AL.of (fun i : Nat => i ≤ l.length) (fun i => l.length - i) (fun i => [(0,tmD l),(1,tmD l),(5, .int .i64 i)]) (fun _ => []) 0 (Nat.zero_le _) ?_ ?_ ?_ ?_
  · simp (disch:=first|exact dd|fail) only [go_sem,seval,tmD]
    try exact LeV.refl _
  · simp (disch:=first|exact dd|fail) only [go_sem,seval]
  · intro x _;simp (disch:=first|exact dd|fail) only [go_sem,seval]
  intro i hi
  by_cases hil : i = l.length
  · subst hil
    simp (disch:=first|exact dd|fail) only [go_sem,seval,tmD]
  · have hil' : i < l.length:=by omega
    have hp : tmR l i = tmC (l.getD i tm0):=rfl
    generalize l.getD i tm0 = t at *
    simp (disch:=first|exact dd|fail) only [go_sem,seval,tmD,hp,tmC]
    refine ⟨i + 1,hil',by show l.length - (i + 1) < l.length - i;omega, ?_, ?_⟩
    · simp (disch:=first|exact dd|fail) only [go_sem,seval,tmD]
      try exact LeV.refl _
    · simp (disch:=first|exact dd|fail) only [go_sem,seval]
section
variable (c : Lm) (h : Hp) (ρ : Nat → Option Nat) (r : Nat → Nat) (l : List Tm)
theorem imp_lmD : imp ρ h (lmD c) = lmD c:=Eq.trans rfl rfl
theorem asAgg_lmD : asAgg (lmD c) = some [.int .i64 c.r, .int .i64 c.p, .int .i64 c.b, .int .i64 c.d, .int .i64 c.t]:=Eq.trans rfl rfl
end
attribute [go_sem] imp_lmD asAgg_lmD
abbrev shLim : Sh:=.st (.cons (.int .i64) (.cons (.int .i64) (.cons (.int .i64) (.cons (.int .i64) (.cons (.int .i64) .nil)))))
def toLm (y : Int × Int × Int × Int × Int × Unit) : Lm:=⟨y.1,y.2.1,y.2.2.1,y.2.2.2.1,y.2.2.2.2.1⟩
theorem lim_arg (y : Int × Int × Int × Int × Int × Unit) (w : Sh.wf shLim y) : LeV (Sh.d shLim y) (lmD (toLm y)) ∧ (toLm y).ok:=
  ⟨LeV.refl _,⟨bounds_i64 w.2.2.1,bounds_i64 w.2.2.2.2.1⟩⟩
def rfkV (k : Int) (X : List (List Pt)) (b : List (Rat × Rat)) (p : Rat × Rat) (T : List Rat) (E : List (List (Rat × Rat))) : D:=
  .agg [.int .i64 k,rpfD X,rbD b, .bool (decide (p.1.num < 0)),nD p.1.num.natAbs,nD p.1.den, .bool (decide (p.2.num < 0)),nD p.2.num.natAbs,nD p.2.den,rqlD T,rbfD E]
theorem LeV_rpf {F : List (List Tm)} {n : Nat} (hn : n = F.length) : LeV (.ro false 1 n fun i => rpR (F.map pV) i) (rpfD (F.map pV)):=LeV.ro (by rw [List.length_map];exact hn) fun j hj => Le.refl _
theorem LeV_rfp {a0 x a2 a3 a4 a5 a6 a7 a8 x' t t' e e' : D} (hx : LeV x x') (ht : LeV t t') (he : LeV e e') : LeV (.agg [a0,x,a2,a3,a4,a5,a6,a7,a8,t,e]) (.agg [a0,x',a2,a3,a4,a5,a6,a7,a8,t',e']):=
  LeV.agg (LesV.cons (LeV.refl _) (LesV.cons hx (LesV.cons (LeV.refl _) (LesV.cons (LeV.refl _) (LesV.cons (LeV.refl _) (LesV.cons (LeV.refl _) (LesV.cons (LeV.refl _) (LesV.cons (LeV.refl _) (LesV.cons (LeV.refl _) (LesV.cons ht (LesV.cons he LesV.nil)))))))))))
def preB (c : Cl) : Bool:=decide (1 ≤ c.k ∧ c.k ≤ 5) && decide ((boxR c.B).2 = 0) && (decide (c.k ≠ 5) || decide ((boxR c.B).1.length ≤ 2)) && manyB c.k (boxR c.B).1.length c.F.length && okFs (boxR c.B).1.length c.F && rOK c
theorem opn_pre {c : Cl} : opnB c = (preB c && tOK (boxR c.B).1.length c):=by
  unfold opnB preB
  by_cases k5 : c.k = 5
  · have hi : tOK (boxR c.B).1.length c = true → decide ((boxR c.B).1.length ≤ 2) = true:=fun h => by
      unfold tOK at h
      rw [if_pos k5] at h
      unfold okTE at h
      simp only [Bool.and_eq_true] at h
      exact h.1.2
    generalize tOK (boxR c.B).1.length c = z at *
    cases z
    · simp
    rw [hi rfl]
    cases decide ((boxR c.B).2 = 0) <;> cases decide (1 ≤ c.k ∧ c.k ≤ 5) <;> cases manyB c.k (boxR c.B).1.length c.F.length <;> cases okFs (boxR c.B).1.length c.F <;> cases rOK c <;> simp [k5]
  · cases decide ((boxR c.B).2 = 0) <;> cases decide (1 ≤ c.k ∧ c.k ≤ 5) <;> cases manyB c.k (boxR c.B).1.length c.F.length <;> cases okFs (boxR c.B).1.length c.F <;> cases rOK c <;> simp [k5]
def tzB (c : Cl) : Bool:=decide (c.T.length = 0) && decide (c.E.length = 0)
theorem r2_Open_core {c : Cl} (hc : c.ok) {res : D} (h0 : preB c = false → res = .tup [rfk0, .bool false])
    (h5 : preB c = true → c.k = 5 → res = .tup [if okTE (boxR c.B).1.length c = true then rfkT c.k (c.F.map pV) (boxR c.B).1 (tV c.T) (eV c.E) else rfk0, .bool (okTE (boxR c.B).1.length c)])
    (h2 : preB c = true → c.k = 2 → res = .tup [rfkV c.k (c.F.map pV) (boxR c.B).1 (spR c.R.1 c.R.2).1 [] [], .bool (tzB c)])
    (h1 : preB c = true → c.k ≠ 2 → c.k ≠ 5 → res = .tup [rfkT c.k (c.F.map pV) (boxR c.B).1 [] [], .bool (tzB c)]) : C E 14 [clD c] res:=by
  refine CG_intro Tryz.func14 rfl (by kernel_rfl) rfl (by kernel_rfl) (by kernel_rfl) rfl ?_
  have hk:=hc.k
  have hP:=ref_BoxParse (l:=c.B) (by have:=hc.B.1;omega) hc.B.2
  have hS:=ref_SpanParse c.R.1 c.R.2 hc.R.1 hc.R.2
  have hbl:=box_len c.B
  have hfl:=hc.F.1
  by_cases k1 : 1 ≤ c.k
  case neg =>
    obtain rfl:=h0 (by unfold preB;rw [decide_eq_false (by omega)];rfl)
    by_cases b1 : (boxR c.B).2 = 0
    · simp only [rboxD,if_pos b1] at hP
      simp (disch:=first|exact dd|fail) only [go_sem,seval,clD]
      refine cA hP ?_
      simp (disch:=first|exact dd|fail) only [go_sem,seval]
      exact LeV.refl _
    · simp only [rboxD,if_neg b1] at hP
      simp (disch:=first|exact dd|fail) only [go_sem,seval,clD]
      refine cA hP ?_
      simp (disch:=first|exact dd|fail) only [go_sem,seval]
      exact LeV.refl _
  by_cases k5 : c.k ≤ 5
  case neg =>
    obtain rfl:=h0 (by unfold preB;rw [decide_eq_false (by omega)];rfl)
    by_cases b1 : (boxR c.B).2 = 0
    · simp only [rboxD,if_pos b1] at hP
      simp (disch:=first|exact dd|fail) only [go_sem,seval,clD]
      refine cA hP ?_
      simp (disch:=first|exact dd|fail) only [go_sem,seval]
      exact LeV.refl _
    · simp only [rboxD,if_neg b1] at hP
      simp (disch:=first|exact dd|fail) only [go_sem,seval,clD]
      refine cA hP ?_
      simp (disch:=first|exact dd|fail) only [go_sem,seval]
      exact LeV.refl _
  have hk15 : decide (1 ≤ c.k ∧ c.k ≤ 5) = true:=decide_eq_true ⟨k1,k5⟩
  by_cases b1 : (boxR c.B).2 = 0
  case neg =>
    obtain rfl:=h0 (by unfold preB;rw [decide_eq_false b1];simp)
    simp only [rboxD,if_neg b1] at hP
    simp (disch:=first|exact dd|fail) only [go_sem,seval,clD]
    refine cA hP ?_
    simp (disch:=first|exact dd|fail) only [go_sem,seval,b1,bne]
    exact LeV.refl _
  simp only [rboxD,if_pos b1] at hP
  by_cases kf : c.k = 5 ∧ 2 < (boxR c.B).1.length
  case pos =>
    obtain ⟨kf,kg⟩:=kf
    obtain rfl:=h0 (by unfold preB;rw [decide_eq_false (show ¬ c.k ≠ 5 by omega),decide_eq_false (show ¬ (boxR c.B).1.length ≤ 2 by omega)];simp)
    simp (disch:=first|exact dd|fail) only [go_sem,seval,clD]
    refine cA hP ?_
    simp (disch:=first|exact dd|fail) only [go_sem,seval,b1,bne,rbD]
    exact LeV.refl _
  have hkf : (decide (c.k ≠ 5) || decide ((boxR c.B).1.length ≤ 2)) = true:=by
    by_cases k : c.k = 5
    · rw [decide_eq_true (show (boxR c.B).1.length ≤ 2 by omega)];simp
    · rw [decide_eq_true k];rfl
  have hpr : preB c = (manyB c.k (boxR c.B).1.length c.F.length && okFs (boxR c.B).1.length c.F && rOK c):=by unfold preB;rw [hk15,decide_eq_true b1,hkf];rfl
  have hmn : manyB c.k (boxR c.B).1.length c.F.length = manyB c.k (boxR c.B).1.length c.F.length:=rfl
  conv at hmn => rhs;unfold manyB
  have hFd : fsD c.F = .ro false 1 c.F.length (fsR c.F):=rfl
  have pre : ∀ {Q : Prop},(c.k = 5 → (boxR c.B).1.length ≤ 2 → Q) → (c.k ≠ 5 → Q) → Q:=fun {Q} q1 q2 => by
    by_cases k : c.k = 5
    · exact q1 k (by omega)
    · exact q2 k
  cases hm : manyB c.k (boxR c.B).1.length c.F.length with
  | false =>
    obtain rfl:=h0 (by rw [hpr,hm];rfl)
    rw [hm] at hmn
    by_cases q1 : c.k = 1 ∨ c.k = 2
    · rw [if_pos q1] at hmn
      have hmn:=of_decide_eq_false hmn.symm
      rcases q1 with q1 | q1
      · simp (disch:=first|exact dd|fail) only [go_sem,seval,clD]
        refine cA hP ?_
        simp (disch:=first|exact dd|fail) only [go_sem,seval,b1,bne,rbD,hFd]
        exact LeV.refl _
      · simp (disch:=first|exact dd|fail) only [go_sem,seval,clD]
        refine cA hP ?_
        simp (disch:=first|exact dd|fail) only [go_sem,seval,b1,bne,rbD,hFd]
        exact LeV.refl _
    rw [if_neg q1] at hmn
    by_cases q3 : c.k = 3
    · rw [if_pos q3] at hmn
      have hmn:=of_decide_eq_false hmn.symm
      by_cases q4 : c.F.length < 1
      · simp (disch:=first|exact dd|fail) only [go_sem,seval,clD]
        refine cA hP ?_
        simp (disch:=first|exact dd|fail) only [go_sem,seval,b1,bne,rbD,hFd]
        exact LeV.refl _
      · simp (disch:=first|exact dd|fail) only [go_sem,seval,clD]
        refine cA hP ?_
        simp (disch:=first|exact dd|fail) only [go_sem,seval,b1,bne,rbD,hFd]
        exact LeV.refl _
    · rw [if_neg q3] at hmn
      have hmn:=of_decide_eq_false hmn.symm
      refine pre (fun r1 r2 => ?_) (fun r1 => ?_)
      all_goals
        simp (disch:=first|exact dd|fail) only [go_sem,seval,clD]
        refine cA hP ?_
        simp (disch:=first|exact dd|fail) only [go_sem,seval,b1,bne,rbD,hFd]
        exact LeV.refl _
  | true =>
    rw [hm] at hmn
    have hl3 : c.F.length ≤ 3:=by
      split at hmn
      · have:=of_decide_eq_true hmn.symm;omega
      split at hmn
      · have:=of_decide_eq_true hmn.symm;omega
      · have:=of_decide_eq_true hmn.symm;omega
    have go : ∀ {Q : Prop},(c.k = 1 → c.F.length = 1 → Q) → (c.k = 2 → c.F.length = 1 → Q) → (c.k = 3 → 1 ≤ c.F.length → Q) → (c.k = 4 → c.F.length = (boxR c.B).1.length → Q) → (c.k = 5 → (boxR c.B).1.length ≤ 2 → c.F.length = (boxR c.B).1.length → Q) → Q:=fun {Q} q1 q2 q3 q4 q5 => by
      rcases (show c.k = 1 ∨ c.k = 2 ∨ c.k = 3 ∨ c.k = 4 ∨ c.k = 5 by omega) with k | k | k | k | k
      · rw [if_pos (.inl k)] at hmn;exact q1 k (of_decide_eq_true hmn.symm)
      · rw [if_pos (.inr k)] at hmn;exact q2 k (of_decide_eq_true hmn.symm)
      · rw [if_neg (by omega),if_pos k] at hmn;exact q3 k (of_decide_eq_true hmn.symm).1
      · rw [if_neg (by omega),if_neg (by omega)] at hmn;exact q4 k (of_decide_eq_true hmn.symm)
      · rw [if_neg (by omega),if_neg (by omega)] at hmn;exact q5 k (by omega) (of_decide_eq_true hmn.symm)
    rw [hm,Bool.true_and] at hpr
    clear hmn pre
    refine go (fun k l => ?_) (fun k l => ?_) (fun k l => ?_) (fun k l => ?_) (fun k l2 l => ?_)
    all_goals
      simp (disch:=first|exact dd|fail) only [go_sem,seval,clD]
      refine cA hP ?_
      simp (disch:=first|exact dd|fail) only [go_sem,seval,b1,bne,rbD,hFd]
      refine AL.ofW (fun i : Nat => i ≤ c.F.length ∧ ∀ j,j < i → okF (boxR c.B).1.length (c.F.getD j []) = true) (fun i => c.F.length - i) (fun i => [(1, .ad 0 0),(2, .ad 1 0),(4, .ad 2 0),(5,rbD (boxR c.B).1),(8, .int .i64 i)])
        (fun i => [(0, .var true 7 (clD c)),(1, .var true 11 rfk0),(2, .var true 11 (.agg [.int .i64 c.k, .sl 3 i 0 i,rbD (boxR c.B).1, .bool false, .nils, .nils, .bool false, .nils, .nils, .nils, .nils])),(3, .row false i false 1 i (rpR (c.F.map pV)))]) 0
        (Wk.nilV 2 1 false 1 (fun _ => .unk) rfl rfl (Nat.le_refl _)) (Nat.le_succ _) ⟨Nat.zero_le _,fun j hj => absurd hj (by omega)⟩ ?_ ?_ ?_ ?_
      · simp (disch:=first|exact dd|fail) only [go_sem,seval,rbD]
        try exact LeV.refl _
      · simp (disch:=first|exact dd|fail) only [go_sem,seval,rfk0,clD,fsD,rbD,List.set_cons_succ,List.set_cons_zero]
        all_goals first | exact fun j hj => absurd hj (by omega) | exact ⟨LeV.refl _,fun j hj => absurd hj (by omega)⟩ | exact ⟨LeV.refl _,LeV.refl _,fun j hj => absurd hj (by omega)⟩
      · intro x _;simp (disch:=first|exact dd|fail) only [go_sem,seval]
      rintro i ⟨hi,hok⟩
      by_cases hil : i = c.F.length
      case neg =>
        have htt:=hc.F.2 _ (getD_mem' c.F i [] (by omega))
        have hp1 : fsR c.F i = tmD (c.F.getD i []):=rfl
        have hmp:=map_at (l:=c.F) (f:=pV) (i:=i) (d:=[]) (e:=[]) (by omega)
        have hQ:=r2_polyOk (l:=c.F.getD i []) (by omega) htt.2
        have hV:=ref_PolyVars (l:=pV (c.F.getD i [])) (by rw [pV_len];omega)
        have hle:=pVars_le (pV (c.F.getD i []))
        have hno : okF (boxR c.B).1.length (c.F.getD i []) = false → res = .tup [rfk0, .bool false]:=fun h => h0 (by
          have:=all_no (l:=c.F) (d:=[]) (i:=i) (f:=okF (boxR c.B).1.length) (by omega) h
          rw [hpr,show okFs (boxR c.B).1.length c.F = false from this];rfl)
        have hyes : okF (boxR c.B).1.length (c.F.getD i []) = true → i + 1 ≤ c.F.length ∧ ∀ j,j < i + 1 → okF (boxR c.B).1.length (c.F.getD j []) = true:=fun h => ⟨by omega,fun j hj => by
          rcases Nat.lt_or_ge j i with h2 | h2
          · exact hok j h2
          · rw [show j = i by omega];exact h⟩
        have hpf : rpR (c.F.map pV) i = rtD (pV (c.F.getD i [])):=by unfold rpR;rw [hmp]
        clear h0 h5 h2 h1 hpr hmp go hS
        have hof : okF (boxR c.B).1.length (c.F.getD i []) = (plOk (c.F.getD i []) && decide (pVars (pV (c.F.getD i [])) ≤ (boxR c.B).1.length)):=rfl
        generalize c.F.getD i [] = t at *
        unfold poD at hQ
        cases p1 : plOk t with
        | false =>
          obtain rfl:=hno (by rw [hof,p1];rfl)
          rw [p1] at hQ
          cases p2 : okPl t with
          | false =>
            rw [p2] at hQ
            simp only [Bool.false_eq_true,if_false] at hQ
            simp (disch:=first|exact dd|fail) only [go_sem,seval,clD,fsD,hp1]
            refine cA hQ ?_
            simp (disch:=first|exact dd|fail) only [go_sem,seval]
            exact LeV.refl _
          | true =>
            rw [p2] at hQ
            simp only [if_true] at hQ
            simp (disch:=first|exact dd|fail) only [go_sem,seval,clD,fsD,hp1]
            refine cA hQ ?_
            simp (disch:=first|exact dd|fail) only [go_sem,seval]
            exact LeV.refl _
        | true =>
          have p2 : okPl t = true:=by unfold plOk at p1;simp at p1;exact p1.1
          rw [p1,p2] at hQ
          simp only [if_true] at hQ
          simp (disch:=first|exact dd|fail) only [go_sem,seval,clD,fsD,hp1]
          refine cA hQ ?_
          simp (disch:=first|exact dd|fail) only [go_sem,seval]
          refine cA hV ?_
          by_cases p3 : pVars (pV t) ≤ (boxR c.B).1.length
          case neg =>
            obtain rfl:=hno (by rw [hof];simp [p3])
            simp (disch:=first|exact dd|fail) only [go_sem,seval,rbD]
            exact LeV.refl _
          simp (disch:=first|exact dd|fail) only [go_sem,seval,rbD]
          refine ⟨.inl trivial, .inr trivial,by omega,by omega,i + 1,hyes (by rw [hof,p1];simp [p3]),by show c.F.length - (i + 1) < c.F.length - i;omega, ?_, ?_⟩
          · simp (disch:=first|exact dd|fail) only [go_sem,seval,rbD]
            try exact LeV.refl _
          · simp (disch:=first|exact dd|fail) only [go_sem,seval,clD,fsD,rbD]
            have hj2 : ∀ j,j < i + 1 → Le (if j < i then rpR (c.F.map pV) j else [rtD (pV t)].getD (j - i) .unk) (rpR (c.F.map pV) j):=fun j hj => by
              by_cases h : j < i
              · rw [if_pos h];exact Le.refl _
              · obtain rfl : j = i:=by omega
                rw [if_neg h,Nat.sub_self,hpf];exact Le.refl _
            all_goals first | exact hj2 | exact ⟨LeV.refl _,hj2⟩ | exact ⟨LeV.refl _,LeV.refl _,hj2⟩
      have hall : okFs (boxR c.B).1.length c.F = true:=all_of (d:=[]) (fun j hj => hok j (by omega))
      rw [hall,Bool.true_and] at hpr
      subst hil
      clear go hok
      have tz3 : ∀ {Q : Prop},(c.T.length = 0 → c.E.length = 0 → tzB c = true → Q) → (c.T.length = 0 → c.E.length ≠ 0 → tzB c = false → Q) → (c.T.length ≠ 0 → tzB c = false → Q) → Q:=fun {Q} q1 q2 q3 => by
        unfold tzB at q1 q2 q3
        by_cases t1 : c.T.length = 0
        · by_cases t2 : c.E.length = 0
          · exact q1 t1 t2 (by rw [decide_eq_true t1,decide_eq_true t2];rfl)
          · exact q2 t1 t2 (by rw [decide_eq_true t1,decide_eq_false t2];rfl)
        · exact q3 t1 (by rw [decide_eq_false t1];rfl)
      have hro : rOK c = if c.k = 2 then decide ((spR c.R.1 c.R.2).2 = 0) else (c.R.1 == [] && c.R.2 == []):=rfl
      by_cases k2 : c.k = 2
      · rw [if_pos k2] at hro
        first
        | (exfalso;omega)
        | (by_cases z : (spR c.R.1 c.R.2).2 = 0
           case neg =>
             obtain rfl:=h0 (by rw [hpr,hro];simp [z])
             simp only [rspD,if_neg z] at hS
             simp (disch:=first|exact dd|fail) only [go_sem,seval,clD,fsD]
             refine cA hS ?_
             simp (disch:=first|exact dd|fail) only [go_sem,seval,bne]
             exact LeV.refl _
           obtain rfl:=h2 (by rw [hpr,hro];simp [z]) k2
           simp only [rspD,if_pos z] at hS
           have hTd : tlD c.T = .ro false 1 c.T.length (tR c.T):=rfl
           have hEd : esD c.E = .ro false 1 c.E.length (esR c.E):=rfl
           refine tz3 (fun t1 t2 t3 => ?_) (fun t1 t2 t3 => ?_) (fun t1 t3 => ?_)
           all_goals
             rw [t3]
             simp (disch:=first|exact dd|fail) only [go_sem,seval,clD,fsD]
             refine cA hS ?_
             simp (disch:=first|exact dd|fail) only [go_sem,seval,bne,z,hTd,hEd]
             refine AReg_anyL 13 [0,1,2,3,4,5,6,7,8,9,10,11,12] rfl rfl (by decide +kernel) ?_
             refine AAny_free 0 [1,2,3,4,5,6,7,8,9,10,11,12] (by decide +kernel) rfl ?_
             refine AI_at _ rfl ?_
             simp (disch:=first|exact dd|fail) only [go_sem,seval]
             refine AAny_free 1 [2,3,4,5,6,7,8,9,10,11,12] (by decide +kernel) rfl ?_
             refine AI_at _ rfl ?_
             simp (disch:=first|exact dd|fail) only [go_sem,seval]
             refine AAny_free 2 [3,4,5,6,7,8,9,10,11,12] (by decide +kernel) rfl ?_
             refine AI_at _ rfl ?_
             simp (disch:=first|exact dd|fail) only [go_sem,seval]
             refine AAny_free 3 [4,5,6,7,8,9,10,11,12] (by decide +kernel) rfl ?_
             refine AI_at _ rfl ?_
             simp (disch:=first|exact dd|fail) only [go_sem,seval]
             refine AAny_free 4 [5,6,7,8,9,10,11,12] (by decide +kernel) rfl ?_
             refine AI_at _ rfl ?_
             simp (disch:=first|exact dd|fail) only [go_sem,seval]
             refine AAny_free 5 [6,7,8,9,10,11,12] (by decide +kernel) rfl ?_
             refine AI_at _ rfl ?_
             simp (disch:=first|exact dd|fail) only [go_sem,seval]
             refine AAny_free 6 [7,8,9,10,11,12] (by decide +kernel) rfl ?_
             refine AI_at _ rfl ?_
             simp (disch:=first|exact dd|fail) only [go_sem,seval]
             refine AAny_step [(7,[8,9,10,11,12]),(11,[7,8,9,10,12])] (by decide +kernel) rfl ?_
             refine forall_more ?_ ?_
             · refine AI_at _ rfl ?_
               simp (disch:=first|exact dd|fail) only [go_sem,seval]
               refine AAny_free 8 [9,10,11,12] (by decide +kernel) rfl ?_
               refine AI_at _ rfl ?_
               simp (disch:=first|exact dd|fail) only [go_sem,seval]
               refine AAny_free 9 [10,11,12] (by decide +kernel) rfl ?_
               refine AI_at _ rfl ?_
               simp (disch:=first|exact dd|fail) only [go_sem,seval]
               refine AAny_free 10 [11,12] (by decide +kernel) rfl ?_
               refine AI_at _ rfl ?_
               simp (disch:=first|exact dd|fail) only [go_sem,seval]
               refine AAny_free 11 [12] (by decide +kernel) rfl ?_
               refine AI_at _ rfl ?_
               simp (disch:=first|exact dd|fail) only [go_sem,seval]
               refine AAny_free 12 [] (by decide +kernel) rfl ?_
               refine AI_at _ rfl ?_
               simp (disch:=first|exact dd|fail) only [go_sem,seval]
               refine AAny_end ?_
               simp (disch:=first|exact dd|fail) only [go_sem,seval]
               exact LeV.tup (LesV.cons (LeV_rfp (LeV_rpf rfl) LeV.nils LeV.nils) (LesV.refl _))
             refine forall_one ?_
             refine AI_at _ rfl ?_
             simp (disch:=first|exact dd|fail) only [go_sem,seval]
             refine AAny_free 7 [8,9,10,12] (by decide +kernel) rfl ?_
             refine AI_at _ rfl ?_
             simp (disch:=first|exact dd|fail) only [go_sem,seval]
             refine AAny_free 8 [9,10,12] (by decide +kernel) rfl ?_
             refine AI_at _ rfl ?_
             simp (disch:=first|exact dd|fail) only [go_sem,seval]
             refine AAny_free 9 [10,12] (by decide +kernel) rfl ?_
             refine AI_at _ rfl ?_
             simp (disch:=first|exact dd|fail) only [go_sem,seval]
             refine AAny_free 10 [12] (by decide +kernel) rfl ?_
             refine AI_at _ rfl ?_
             simp (disch:=first|exact dd|fail) only [go_sem,seval]
             refine AAny_free 12 [] (by decide +kernel) rfl ?_
             refine AI_at _ rfl ?_
             simp (disch:=first|exact dd|fail) only [go_sem,seval]
             refine AAny_end ?_
             simp (disch:=first|exact dd|fail) only [go_sem,seval]
             exact LeV.tup (LesV.cons (LeV_rfp (LeV_rpf rfl) LeV.nils LeV.nils) (LesV.refl _))
           )
      rw [if_neg k2] at hro
      clear hS h2
      cases z : (c.R.1 == [] && c.R.2 == []) with
      | false =>
        obtain rfl:=h0 (by rw [hpr,hro];exact z)
        by_cases z1 : c.R.1 = []
        · have z2 : (c.R.2 == []) = false:=by
            rw [z1] at z
            simpa using z
          first
          | (exfalso;omega)
          | (simp (disch:=first|exact dd|fail) only [go_sem,seval,clD,fsD,z1,z2,bne]
             exact LeV.refl _)
        · have z2 : (c.R.1 == []) = false:=beq_eq_false_iff_ne.2 z1
          first
          | (exfalso;omega)
          | (simp (disch:=first|exact dd|fail) only [go_sem,seval,clD,fsD,z2,bne]
             exact LeV.refl _)
      | true =>
        have z1 : c.R.1 = []:=by simp at z;exact z.1
        have z2 : c.R.2 = []:=by simp at z;exact z.2
        have hpt : preB c = true:=by rw [hpr,hro];exact z
        by_cases k5' : c.k = 5
        · have hX:=r2_openFlow (k:=c.k) (X:=c.F.map pV) (b:=(boxR c.B).1) (c:=c) (by omega) hc.T.1 hc.E.1 hc.T.2 hc.E.2
          obtain rfl:=h5 hpt k5'
          first
          | (exfalso;omega)
          | (cases hx : okTE (boxR c.B).1.length c with
             | true =>
               rw [hx] at hX
               simp only [if_true] at hX
               rw [if_pos rfl]
               simp (disch:=first|exact dd|fail) only [go_sem,seval,clD,fsD,z1,z2,bne]
               refine callC hX ?_ rfl ?_
               · simp (disch:=first|exact dd|fail) only [go_sem,seval]
                 exact LesV.cons (LeV.of_eq (by unfold clD fsD;rw [z1,z2])) (LesV.cons (LeV_rfp (LeV_rpf rfl) (LeV.refl _) (LeV.refl _)) LesV.nil)
               simp (disch:=first|exact dd|fail) only [go_sem,seval,rfkT]
             | false =>
               rw [hx] at hX
               simp only [Bool.false_eq_true,if_false] at hX
               rw [if_neg Bool.false_ne_true]
               simp (disch:=first|exact dd|fail) only [go_sem,seval,clD,fsD,z1,z2,bne]
               refine callC hX ?_ rfl ?_
               · simp (disch:=first|exact dd|fail) only [go_sem,seval]
                 exact LesV.cons (LeV.of_eq (by unfold clD fsD;rw [z1,z2])) (LesV.cons (LeV_rfp (LeV_rpf rfl) (LeV.refl _) (LeV.refl _)) LesV.nil)
               simp (disch:=first|exact dd|fail) only [go_sem,seval,rfk0])
        · have hTd : tlD c.T = .ro false 1 c.T.length (tR c.T):=rfl
          have hEd : esD c.E = .ro false 1 c.E.length (esR c.E):=rfl
          obtain rfl:=h1 hpt k2 k5'
          first
          | (exfalso;omega)
          | (refine tz3 (fun t1 t2 t3 => ?_) (fun t1 t2 t3 => ?_) (fun t1 t3 => ?_)
             all_goals
               rw [t3]
               simp (disch:=first|exact dd|fail) only [go_sem,seval,clD,fsD,z1,z2,bne,hTd,hEd]
               refine AReg_anyL 13 [0,1,2,3,4,5,6,7,8,9,10,11,12] rfl rfl (by decide +kernel) ?_
               refine AAny_free 0 [1,2,3,4,5,6,7,8,9,10,11,12] (by decide +kernel) rfl ?_
               refine AI_at _ rfl ?_
               simp (disch:=first|exact dd|fail) only [go_sem,seval]
               refine AAny_free 1 [2,3,4,5,6,7,8,9,10,11,12] (by decide +kernel) rfl ?_
               refine AI_at _ rfl ?_
               simp (disch:=first|exact dd|fail) only [go_sem,seval]
               refine AAny_free 2 [3,4,5,6,7,8,9,10,11,12] (by decide +kernel) rfl ?_
               refine AI_at _ rfl ?_
               simp (disch:=first|exact dd|fail) only [go_sem,seval]
               refine AAny_free 3 [4,5,6,7,8,9,10,11,12] (by decide +kernel) rfl ?_
               refine AI_at _ rfl ?_
               simp (disch:=first|exact dd|fail) only [go_sem,seval]
               refine AAny_free 4 [5,6,7,8,9,10,11,12] (by decide +kernel) rfl ?_
               refine AI_at _ rfl ?_
               simp (disch:=first|exact dd|fail) only [go_sem,seval]
               refine AAny_free 5 [6,7,8,9,10,11,12] (by decide +kernel) rfl ?_
               refine AI_at _ rfl ?_
               simp (disch:=first|exact dd|fail) only [go_sem,seval]
               refine AAny_free 6 [7,8,9,10,11,12] (by decide +kernel) rfl ?_
               refine AI_at _ rfl ?_
               simp (disch:=first|exact dd|fail) only [go_sem,seval]
               refine AAny_step [(7,[8,9,10,11,12]),(11,[7,8,9,10,12])] (by decide +kernel) rfl ?_
               refine forall_more ?_ ?_
               · refine AI_at _ rfl ?_
                 simp (disch:=first|exact dd|fail) only [go_sem,seval]
                 refine AAny_free 8 [9,10,11,12] (by decide +kernel) rfl ?_
                 refine AI_at _ rfl ?_
                 simp (disch:=first|exact dd|fail) only [go_sem,seval]
                 refine AAny_free 9 [10,11,12] (by decide +kernel) rfl ?_
                 refine AI_at _ rfl ?_
                 simp (disch:=first|exact dd|fail) only [go_sem,seval]
                 refine AAny_free 10 [11,12] (by decide +kernel) rfl ?_
                 refine AI_at _ rfl ?_
                 simp (disch:=first|exact dd|fail) only [go_sem,seval]
                 refine AAny_free 11 [12] (by decide +kernel) rfl ?_
                 refine AI_at _ rfl ?_
                 simp (disch:=first|exact dd|fail) only [go_sem,seval]
                 refine AAny_free 12 [] (by decide +kernel) rfl ?_
                 refine AI_at _ rfl ?_
                 simp (disch:=first|exact dd|fail) only [go_sem,seval]
                 refine AAny_end ?_
                 simp (disch:=first|exact dd|fail) only [go_sem,seval]
                 exact LeV.tup (LesV.cons (LeV_rfp (LeV_rpf rfl) LeV.nils LeV.nils) (LesV.refl _))
               refine forall_one ?_
               refine AI_at _ rfl ?_
               simp (disch:=first|exact dd|fail) only [go_sem,seval]
               refine AAny_free 7 [8,9,10,12] (by decide +kernel) rfl ?_
               refine AI_at _ rfl ?_
               simp (disch:=first|exact dd|fail) only [go_sem,seval]
               refine AAny_free 8 [9,10,12] (by decide +kernel) rfl ?_
               refine AI_at _ rfl ?_
               simp (disch:=first|exact dd|fail) only [go_sem,seval]
               refine AAny_free 9 [10,12] (by decide +kernel) rfl ?_
               refine AI_at _ rfl ?_
               simp (disch:=first|exact dd|fail) only [go_sem,seval]
               refine AAny_free 10 [12] (by decide +kernel) rfl ?_
               refine AI_at _ rfl ?_
               simp (disch:=first|exact dd|fail) only [go_sem,seval]
               refine AAny_free 12 [] (by decide +kernel) rfl ?_
               refine AI_at _ rfl ?_
               simp (disch:=first|exact dd|fail) only [go_sem,seval]
               refine AAny_end ?_
               simp (disch:=first|exact dd|fail) only [go_sem,seval]
               exact LeV.tup (LesV.cons (LeV_rfp (LeV_rpf rfl) LeV.nils LeV.nils) (LesV.refl _))
             )
def psG (b : Txt) (l : Lm) : Nat → List (List Tm) → Rs → List (List Tm) × Rs
  | 0,acc,s => (acc,s)
  | k + 1,acc,s => psG b l k (acc ++ [(plF b l.t l.b s).1]) (plF b l.t l.b s).2
def tsG (b : Txt) (bits : Int) : Nat → List Txt → Rs → List Txt × Rs
  | 0,acc,s => (acc,s)
  | k + 1,acc,s => tsG b bits k (acc ++ [(raF b bits s).1]) (raF b bits s).2
def esG (b : Txt) (bits : Int) (n : Nat) : Nat → List (List (Txt × Txt)) → Rs → List (List (Txt × Txt)) × Rs
  | 0,acc,s => (acc,s)
  | k + 1,acc,s => esG b bits n k (acc ++ [(bxF b bits n s).1]) (bxF b bits n s).2
def cF1 (b : Txt) (s : Rs) : Nat × Rs:=cnF b 1 5 s
def cF2 (b : Txt) (s : Rs) : Nat × Rs:=cnF b 1 3 (cF1 b s).2
def cF3 (b : Txt) (l : Lm) (s : Rs) : List (Txt × Txt) × Rs:=bxF b l.b (cF2 b s).1 (cF2 b s).2
def cF4 (b : Txt) (l : Lm) (s : Rs) : Nat × Rs:=cnF b 1 3 (cF3 b l s).2
def cF5 (b : Txt) (l : Lm) (s : Rs) : List (List Tm) × Rs:=psG b l (cF4 b l s).1 [] (cF4 b l s).2
def cF6 (b : Txt) (l : Lm) (s : Rs) : (Txt × Txt) × Rs:=if (cF1 b s).1 = 2 then prF b l.b (cF5 b l s).2 else (([],[]),(cF5 b l s).2)
def cF7 (b : Txt) (l : Lm) (s : Rs) : Nat × Rs:=cnF b 1 8 (cF6 b l s).2
def cF8 (b : Txt) (l : Lm) (s : Rs) : List Txt × Rs:=tsG b l.b (cF7 b l s).1 [] (cF7 b l s).2
def cF9 (b : Txt) (l : Lm) (s : Rs) : List (List (Txt × Txt)) × Rs:=esG b l.b (cF2 b s).1 (cF7 b l s).1 [] (cF8 b l s).2
def clC (b : Txt) (l : Lm) (s : Rs) : Cl × Rs:=if (cF1 b s).1 = 5 then (⟨(cF1 b s).1,(cF5 b l s).1,(cF3 b l s).1,(cF6 b l s).1,(cF8 b l s).1,(cF9 b l s).1⟩,(cF9 b l s).2) else (⟨(cF1 b s).1,(cF5 b l s).1,(cF3 b l s).1,(cF6 b l s).1,[],[]⟩,(cF6 b l s).2)
def clF (b : Txt) (l : Lm) (s : Rs) : Cl × Rs:=frm opnB (clC b l s)
theorem cnF_le {b : Txt} {lo hi : Nat} {s : Rs} : (cnF b lo hi s).1 ≤ hi:=by
  unfold cnF
  split
  · exact Nat.zero_le _
  split
  · exact Nat.zero_le _
  · omega
def shP (t : List Tm) : Prop:=t.length ≤ 100000 ∧ ∀ p ∈ t,shT p.2
def shB (e : List (Txt × Txt)) : Prop:=e.length < 1000000 ∧ ∀ p ∈ e,shT p.1 ∧ shT p.2
theorem plF_shP {b : Txt} {l : Lm} {s : Rs} (hb : b.length < 100000) (h : RsOk b s) : shP (plF b l.t l.b s).1:=
  ⟨by have:=(plF_rs (T:=l.t) (bits:=l.b) h).2;omega,plF_sh (by omega) s⟩
theorem bxF_shB {b : Txt} {bits : Int} {n : Nat} {s : Rs} (hb : b.length < 100000) (h : RsOk b s) (hn : n ≤ 3) : shB (bxF b bits n s).1:=
  ⟨by have:=(bxF_rs (bits:=bits) (n:=n) h).2;omega,bxF_sh (by omega) n s⟩
theorem snoc_mem {α : Type} {P : α → Prop} {l : List α} {x : α} (h : ∀ y ∈ l,P y) (hx : P x) : ∀ y ∈ l ++ [x],P y:=fun y hy => by
  rcases List.mem_append.1 hy with hy | hy
  · exact h y hy
  · obtain rfl:=List.mem_singleton.1 hy
    exact hx
theorem psG_rs {b : Txt} {l : Lm} (hb : b.length < 100000) : ∀ (k : Nat) (acc : List (List Tm)) (s : Rs),RsOk b s → (∀ t ∈ acc,shP t) → RsOk b (psG b l k acc s).2 ∧ (psG b l k acc s).1.length = acc.length + k ∧ ∀ t ∈ (psG b l k acc s).1,shP t
  | 0,acc,s,h,ha => ⟨h,rfl,ha⟩
  | k + 1,acc,s,h,ha => by
    have:=psG_rs (l:=l) hb k (acc ++ [(plF b l.t l.b s).1]) _ (plF_rs (T:=l.t) (bits:=l.b) h).1 (snoc_mem ha (plF_shP (l:=l) hb h))
    rw [List.length_append,List.length_singleton] at this
    exact ⟨this.1,by rw [psG,this.2.1];omega,this.2.2⟩
theorem tsG_rs {b : Txt} {bits : Int} (hb : b.length < 100000) : ∀ (k : Nat) (acc : List Txt) (s : Rs),RsOk b s → (∀ t ∈ acc,shT t) → RsOk b (tsG b bits k acc s).2 ∧ (tsG b bits k acc s).1.length = acc.length + k ∧ ∀ t ∈ (tsG b bits k acc s).1,shT t
  | 0,acc,s,h,ha => ⟨h,rfl,ha⟩
  | k + 1,acc,s,h,ha => by
    have:=tsG_rs (bits:=bits) hb k (acc ++ [(raF b bits s).1]) _ (raF_rs (bits:=bits) h) (snoc_mem ha (raF_sh (b:=b) (bits:=bits) (s:=s) (by omega)))
    rw [List.length_append,List.length_singleton] at this
    exact ⟨this.1,by rw [tsG,this.2.1];omega,this.2.2⟩
theorem esG_rs {b : Txt} {bits : Int} {n : Nat} (hb : b.length < 100000) (hn : n ≤ 3) : ∀ (k : Nat) (acc : List (List (Txt × Txt))) (s : Rs),RsOk b s → (∀ t ∈ acc,shB t) → RsOk b (esG b bits n k acc s).2 ∧ (esG b bits n k acc s).1.length = acc.length + k ∧ ∀ t ∈ (esG b bits n k acc s).1,shB t
  | 0,acc,s,h,ha => ⟨h,rfl,ha⟩
  | k + 1,acc,s,h,ha => by
    have:=esG_rs (bits:=bits) hb hn k (acc ++ [(bxF b bits n s).1]) _ (bxF_rs (bits:=bits) (n:=n) h).1 (snoc_mem ha (bxF_shB (bits:=bits) hb h hn))
    rw [List.length_append,List.length_singleton] at this
    exact ⟨this.1,by rw [esG,this.2.1];omega,this.2.2⟩
structure Stg (b : Txt) (l : Lm) (s : Rs) : Prop where
  s1 : RsOk b (cF1 b s).2
  s2 : RsOk b (cF2 b s).2
  s3 : RsOk b (cF3 b l s).2
  s4 : RsOk b (cF4 b l s).2
  s5 : RsOk b (cF5 b l s).2
  s6 : RsOk b (cF6 b l s).2
  s7 : RsOk b (cF7 b l s).2
  s8 : RsOk b (cF8 b l s).2
  s9 : RsOk b (cF9 b l s).2
  n1 : (cF1 b s).1 ≤ 5
  n2 : (cF2 b s).1 ≤ 3
  n4 : (cF4 b l s).1 ≤ 3
  n7 : (cF7 b l s).1 ≤ 8
  B : shB (cF3 b l s).1
  F : (cF5 b l s).1.length = (cF4 b l s).1 ∧ ∀ t ∈ (cF5 b l s).1,shP t
  R : shT (cF6 b l s).1.1 ∧ shT (cF6 b l s).1.2
  T : (cF8 b l s).1.length = (cF7 b l s).1 ∧ ∀ t ∈ (cF8 b l s).1,shT t
  E : (cF9 b l s).1.length = (cF7 b l s).1 ∧ ∀ t ∈ (cF9 b l s).1,shB t
theorem stg {b : Txt} (l : Lm) {s : Rs} (hb : b.length < 100000) (h : RsOk b s) : Stg b l s:=by
  have s1 : RsOk b (cF1 b s).2:=(cnF_rs h).1
  have s2 : RsOk b (cF2 b s).2:=(cnF_rs s1).1
  have n2 : (cF2 b s).1 ≤ 3:=cnF_le
  have s3 : RsOk b (cF3 b l s).2:=(bxF_rs s2).1
  have s4 : RsOk b (cF4 b l s).2:=(cnF_rs s3).1
  have p5:=psG_rs (l:=l) hb (cF4 b l s).1 [] _ s4 (fun t ht => nomatch ht)
  have s5 : RsOk b (cF5 b l s).2:=p5.1
  have s6 : RsOk b (cF6 b l s).2:=by
    unfold cF6;split
    · exact prF_rs s5
    · exact s5
  have s7 : RsOk b (cF7 b l s).2:=(cnF_rs s6).1
  have p8:=tsG_rs (bits:=l.b) hb (cF7 b l s).1 [] _ s7 (fun t ht => nomatch ht)
  have s8 : RsOk b (cF8 b l s).2:=p8.1
  have p9:=esG_rs (bits:=l.b) hb n2 (cF7 b l s).1 [] _ s8 (fun t ht => nomatch ht)
  exact ⟨s1,s2,s3,s4,s5,s6,s7,s8,p9.1,cnF_le,n2,cnF_le,cnF_le,bxF_shB hb s2 n2,⟨p5.2.1.trans (Nat.zero_add _),p5.2.2⟩,by
    unfold cF6;split
    · exact prF_sh (by omega)
    · exact ⟨by show 0 < _;omega,by show 0 < _;omega⟩,⟨p8.2.1.trans (Nat.zero_add _),p8.2.2⟩,⟨p9.2.1.trans (Nat.zero_add _),p9.2.2⟩⟩
theorem clC_ok {b : Txt} {l : Lm} {s : Rs} (hb : b.length < 100000) (h : RsOk b s) : (clC b l s).1.ok ∧ RsOk b (clC b l s).2:=by
  have q:=stg l hb h
  have h1:=q.n1
  have h2:=q.n4
  have h3:=q.n7
  have F:=q.F
  have T:=q.T
  have E:=q.E
  unfold clC
  split
  · exact ⟨⟨by show -9223372036854775808 ≤ (((cF1 b s).1 : Nat) : Int) ∧ (((cF1 b s).1 : Nat) : Int) ≤ 9223372036854775807;omega,⟨by show (cF5 b l s).1.length < _;omega,F.2⟩,q.B,q.R,⟨by show (cF8 b l s).1.length < _;omega,T.2⟩,⟨by show (cF9 b l s).1.length < _;omega,E.2⟩⟩,q.s9⟩
  · exact ⟨⟨by show -9223372036854775808 ≤ (((cF1 b s).1 : Nat) : Int) ∧ (((cF1 b s).1 : Nat) : Int) ≤ 9223372036854775807;omega,⟨by show (cF5 b l s).1.length < _;omega,F.2⟩,q.B,q.R,⟨by show 0 < _;omega,fun t ht => nomatch ht⟩,⟨by show 0 < _;omega,fun t ht => nomatch ht⟩⟩,q.s6⟩
theorem clF_ok {b : Txt} {l : Lm} {s : Rs} (hb : b.length < 100000) (h : RsOk b s) : (clF b l s).1.ok ∧ RsOk b (clF b l s).2:=by
  have:=clC_ok (l:=l) hb h
  unfold clF
  refine ⟨?_,frm_rs this.2⟩
  rw [(frm_val _ _).1]
  exact this.1
end Go.Proofs.YtakaojkfipnfcaaGreatDoor.Lv
