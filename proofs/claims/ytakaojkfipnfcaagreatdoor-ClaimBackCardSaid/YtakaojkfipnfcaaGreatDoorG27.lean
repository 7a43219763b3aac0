/- Reading a claim: what it comes to, in plain words. Readers: a claim. The document reads a claim: the count, the rest. The document's claimRest. Reading a claim: the program's and the document's. -/
import Derived.Test.YtakaojkfipnfcaaGreatDoorG26
import Derived.Test.YtakaojkfipnfcaaGreatDoorG25
import Derived.Test.YtakaojkfipnfcaaGreatDoorG23
import Derived.Test.YtakaojkfipnfcaaGreatDoorG13
set_option linter.unusedVariables false
set_option linter.unusedSimpArgs false
set_option maxRecDepth 100000
set_option maxHeartbeats 4000000
namespace Go.Proofs.YtakaojkfipnfcaaGreatDoor.Lv
open Go Go.RowKit
def psG (b : Txt) (l : Lm) : Nat → List (List Tm) → Rs → List (List Tm) × Rs
  | 0,acc,s => (acc,s)
  | k + 1,acc,s => psG b l k (acc ++ [(plF b l.t l.b s).1]) (plF b l.t l.b s).2
def tsG (b : Txt) (bits : Int) : Nat → List Txt → Rs → List Txt × Rs
  | 0,acc,s => (acc,s)
  | k + 1,acc,s => tsG b bits k (acc ++ [(raF b bits s).1]) (raF b bits s).2
def esG (b : Txt) (bits : Int) (n : Nat) : Nat → List (List (Txt × Txt)) → Rs → List (List (Txt × Txt)) × Rs
  | 0,acc,s => (acc,s)
  | k + 1,acc,s => esG b bits n k (acc ++ [(bxF b bits n s).1]) (bxF b bits n s).2
def cF1 (b : Txt) (s : Rs) : Nat × Rs:=cnF b 1 5 s
def cF2 (b : Txt) (s : Rs) : Nat × Rs:=cnF b 1 3 (cF1 b s).2
def cF3 (b : Txt) (l : Lm) (s : Rs) : List (Txt × Txt) × Rs:=bxF b l.b (cF2 b s).1 (cF2 b s).2
def cF4 (b : Txt) (l : Lm) (s : Rs) : Nat × Rs:=cnF b 1 3 (cF3 b l s).2
def cF5 (b : Txt) (l : Lm) (s : Rs) : List (List Tm) × Rs:=psG b l (cF4 b l s).1 [] (cF4 b l s).2
def cF6 (b : Txt) (l : Lm) (s : Rs) : (Txt × Txt) × Rs:=if (cF1 b s).1 = 2 then prF b l.b (cF5 b l s).2 else (([],[]),(cF5 b l s).2)
def cF7 (b : Txt) (l : Lm) (s : Rs) : Nat × Rs:=cnF b 1 8 (cF6 b l s).2
def cF8 (b : Txt) (l : Lm) (s : Rs) : List Txt × Rs:=tsG b l.b (cF7 b l s).1 [] (cF7 b l s).2
def cF9 (b : Txt) (l : Lm) (s : Rs) : List (List (Txt × Txt)) × Rs:=esG b l.b (cF2 b s).1 (cF7 b l s).1 [] (cF8 b l s).2
def clC (b : Txt) (l : Lm) (s : Rs) : Cl × Rs:=if (cF1 b s).1 = 5 then (⟨(cF1 b s).1,(cF5 b l s).1,(cF3 b l s).1,(cF6 b l s).1,(cF8 b l s).1,(cF9 b l s).1⟩,(cF9 b l s).2) else (⟨(cF1 b s).1,(cF5 b l s).1,(cF3 b l s).1,(cF6 b l s).1,[],[]⟩,(cF6 b l s).2)
def clF (b : Txt) (l : Lm) (s : Rs) : Cl × Rs:=frm opnB (clC b l s)
theorem cnF_le {b : Txt} {lo hi : Nat} {s : Rs} : (cnF b lo hi s).1 ≤ hi:=by
  unfold cnF
  split
  · exact Nat.zero_le _
  split
  · exact Nat.zero_le _
  · omega
def shP (t : List Tm) : Prop:=t.length ≤ 100000 ∧ ∀ p ∈ t,shT p.2
def shB (e : List (Txt × Txt)) : Prop:=e.length < 1000000 ∧ ∀ p ∈ e,shT p.1 ∧ shT p.2
theorem plF_shP {b : Txt} {l : Lm} {s : Rs} (hb : b.length < 100000) (h : RsOk b s) : shP (plF b l.t l.b s).1:=
  ⟨by have:=(plF_rs (T:=l.t) (bits:=l.b) h).2;omega,plF_sh (by omega) s⟩
theorem bxF_shB {b : Txt} {bits : Int} {n : Nat} {s : Rs} (hb : b.length < 100000) (h : RsOk b s) (hn : n ≤ 3) : shB (bxF b bits n s).1:=
  ⟨by have:=(bxF_rs (bits:=bits) (n:=n) h).2;omega,bxF_sh (by omega) n s⟩
theorem snoc_mem {α : Type} {P : α → Prop} {l : List α} {x : α} (h : ∀ y ∈ l,P y) (hx : P x) : ∀ y ∈ l ++ [x],P y:=fun y hy => by
  rcases List.mem_append.1 hy with hy | hy
  · exact h y hy
  · obtain rfl:=List.mem_singleton.1 hy
    exact hx
theorem psG_rs {b : Txt} {l : Lm} (hb : b.length < 100000) : ∀ (k : Nat) (acc : List (List Tm)) (s : Rs),RsOk b s → (∀ t ∈ acc,shP t) → RsOk b (psG b l k acc s).2 ∧ (psG b l k acc s).1.length = acc.length + k ∧ ∀ t ∈ (psG b l k acc s).1,shP t
  | 0,acc,s,h,ha => ⟨h,rfl,ha⟩
  | k + 1,acc,s,h,ha => by
    have:=psG_rs (l:=l) hb k (acc ++ [(plF b l.t l.b s).1]) _ (plF_rs (T:=l.t) (bits:=l.b) h).1 (snoc_mem ha (plF_shP (l:=l) hb h))
    rw [List.length_append,List.length_singleton] at this
    exact ⟨this.1,by rw [psG,this.2.1];omega,this.2.2⟩
theorem tsG_rs {b : Txt} {bits : Int} (hb : b.length < 100000) : ∀ (k : Nat) (acc : List Txt) (s : Rs),RsOk b s → (∀ t ∈ acc,shT t) → RsOk b (tsG b bits k acc s).2 ∧ (tsG b bits k acc s).1.length = acc.length + k ∧ ∀ t ∈ (tsG b bits k acc s).1,shT t
  | 0,acc,s,h,ha => ⟨h,rfl,ha⟩
  | k + 1,acc,s,h,ha => by
    have:=tsG_rs (bits:=bits) hb k (acc ++ [(raF b bits s).1]) _ (raF_rs (bits:=bits) h) (snoc_mem ha (raF_sh (b:=b) (bits:=bits) (s:=s) (by omega)))
    rw [List.length_append,List.length_singleton] at this
    exact ⟨this.1,by rw [tsG,this.2.1];omega,this.2.2⟩
theorem esG_rs {b : Txt} {bits : Int} {n : Nat} (hb : b.length < 100000) (hn : n ≤ 3) : ∀ (k : Nat) (acc : List (List (Txt × Txt))) (s : Rs),RsOk b s → (∀ t ∈ acc,shB t) → RsOk b (esG b bits n k acc s).2 ∧ (esG b bits n k acc s).1.length = acc.length + k ∧ ∀ t ∈ (esG b bits n k acc s).1,shB t
  | 0,acc,s,h,ha => ⟨h,rfl,ha⟩
  | k + 1,acc,s,h,ha => by
    have:=esG_rs (bits:=bits) hb hn k (acc ++ [(bxF b bits n s).1]) _ (bxF_rs (bits:=bits) (n:=n) h).1 (snoc_mem ha (bxF_shB (bits:=bits) hb h hn))
    rw [List.length_append,List.length_singleton] at this
    exact ⟨this.1,by rw [esG,this.2.1];omega,this.2.2⟩
structure Stg (b : Txt) (l : Lm) (s : Rs) : Prop where
  s1 : RsOk b (cF1 b s).2
  s2 : RsOk b (cF2 b s).2
  s3 : RsOk b (cF3 b l s).2
  s4 : RsOk b (cF4 b l s).2
  s5 : RsOk b (cF5 b l s).2
  s6 : RsOk b (cF6 b l s).2
  s7 : RsOk b (cF7 b l s).2
  s8 : RsOk b (cF8 b l s).2
  s9 : RsOk b (cF9 b l s).2
  n1 : (cF1 b s).1 ≤ 5
  n2 : (cF2 b s).1 ≤ 3
  n4 : (cF4 b l s).1 ≤ 3
  n7 : (cF7 b l s).1 ≤ 8
  B : shB (cF3 b l s).1
  F : (cF5 b l s).1.length = (cF4 b l s).1 ∧ ∀ t ∈ (cF5 b l s).1,shP t
  R : shT (cF6 b l s).1.1 ∧ shT (cF6 b l s).1.2
  T : (cF8 b l s).1.length = (cF7 b l s).1 ∧ ∀ t ∈ (cF8 b l s).1,shT t
  E : (cF9 b l s).1.length = (cF7 b l s).1 ∧ ∀ t ∈ (cF9 b l s).1,shB t
theorem stg {b : Txt} (l : Lm) {s : Rs} (hb : b.length < 100000) (h : RsOk b s) : Stg b l s:=by
  have s1 : RsOk b (cF1 b s).2:=(cnF_rs h).1
  have s2 : RsOk b (cF2 b s).2:=(cnF_rs s1).1
  have n2 : (cF2 b s).1 ≤ 3:=cnF_le
  have s3 : RsOk b (cF3 b l s).2:=(bxF_rs s2).1
  have s4 : RsOk b (cF4 b l s).2:=(cnF_rs s3).1
  have p5:=psG_rs (l:=l) hb (cF4 b l s).1 [] _ s4 (fun t ht => nomatch ht)
  have s5 : RsOk b (cF5 b l s).2:=p5.1
  have s6 : RsOk b (cF6 b l s).2:=by
    unfold cF6;split
    · exact prF_rs s5
    · exact s5
  have s7 : RsOk b (cF7 b l s).2:=(cnF_rs s6).1
  have p8:=tsG_rs (bits:=l.b) hb (cF7 b l s).1 [] _ s7 (fun t ht => nomatch ht)
  have s8 : RsOk b (cF8 b l s).2:=p8.1
  have p9:=esG_rs (bits:=l.b) hb n2 (cF7 b l s).1 [] _ s8 (fun t ht => nomatch ht)
  exact ⟨s1,s2,s3,s4,s5,s6,s7,s8,p9.1,cnF_le,n2,cnF_le,cnF_le,bxF_shB hb s2 n2,⟨p5.2.1.trans (Nat.zero_add _),p5.2.2⟩,by
    unfold cF6;split
    · exact prF_sh (by omega)
    · exact ⟨by show 0 < _;omega,by show 0 < _;omega⟩,⟨p8.2.1.trans (Nat.zero_add _),p8.2.2⟩,⟨p9.2.1.trans (Nat.zero_add _),p9.2.2⟩⟩
theorem clC_ok {b : Txt} {l : Lm} {s : Rs} (hb : b.length < 100000) (h : RsOk b s) : (clC b l s).1.ok ∧ RsOk b (clC b l s).2:=by
  have q:=stg l hb h
  have h1:=q.n1
  have h2:=q.n4
  have h3:=q.n7
  have F:=q.F
  have T:=q.T
  have E:=q.E
  unfold clC
  split
  · exact ⟨⟨by show -9223372036854775808 ≤ (((cF1 b s).1 : Nat) : Int) ∧ (((cF1 b s).1 : Nat) : Int) ≤ 9223372036854775807;omega,⟨by show (cF5 b l s).1.length < _;omega,F.2⟩,q.B,q.R,⟨by show (cF8 b l s).1.length < _;omega,T.2⟩,⟨by show (cF9 b l s).1.length < _;omega,E.2⟩⟩,q.s9⟩
  · exact ⟨⟨by show -9223372036854775808 ≤ (((cF1 b s).1 : Nat) : Int) ∧ (((cF1 b s).1 : Nat) : Int) ≤ 9223372036854775807;omega,⟨by show (cF5 b l s).1.length < _;omega,F.2⟩,q.B,q.R,⟨by show 0 < _;omega,fun t ht => nomatch ht⟩,⟨by show 0 < _;omega,fun t ht => nomatch ht⟩⟩,q.s6⟩
theorem clF_ok {b : Txt} {l : Lm} {s : Rs} (hb : b.length < 100000) (h : RsOk b s) : (clF b l s).1.ok ∧ RsOk b (clF b l s).2:=by
  have:=clC_ok (l:=l) hb h
  unfold clF
  refine ⟨?_,frm_rs this.2⟩
  rw [(frm_val _ _).1]
  exact this.1
theorem fsR_app {acc : List (List Tm)} {t : List Tm} {j : Nat} (hj : j < acc.length + 1) : Le (if j < acc.length then fsR acc j else [tmD t].getD (j - acc.length) .unk) (fsR (acc ++ [t]) j):=by
  unfold fsR
  by_cases h : j < acc.length
  · rw [if_pos h,List.getD_eq_getElem?_getD,List.getD_eq_getElem?_getD,List.getElem?_append_left h]
    exact Le.refl _
  · obtain rfl : j = acc.length:=by omega
    rw [if_neg h,Nat.sub_self,List.getD_eq_getElem?_getD (l:=acc ++ _),List.getElem?_append_right (by omega),Nat.sub_self]
    exact Le.refl _
theorem esR_app {acc : List (List (Txt × Txt))} {t : List (Txt × Txt)} {j : Nat} (hj : j < acc.length + 1) : Le (if j < acc.length then esR acc j else [txD t].getD (j - acc.length) .unk) (esR (acc ++ [t]) j):=by
  unfold esR
  by_cases h : j < acc.length
  · rw [if_pos h,List.getD_eq_getElem?_getD,List.getD_eq_getElem?_getD,List.getElem?_append_left h]
    exact Le.refl _
  · obtain rfl : j = acc.length:=by omega
    rw [if_neg h,Nat.sub_self,List.getD_eq_getElem?_getD (l:=acc ++ _),List.getElem?_append_right (by omega),Nat.sub_self]
    exact Le.refl _
theorem tR_app {acc : List Txt} {t : Txt} {j : Nat} (hj : j < acc.length + 1) : Le (if j < acc.length then tR acc j else [D.str t].getD (j - acc.length) .unk) (tR (acc ++ [t]) j):=by
  unfold tR
  by_cases h : j < acc.length
  · rw [if_pos h,List.getD_eq_getElem?_getD,List.getD_eq_getElem?_getD,List.getElem?_append_left h]
    exact Le.refl _
  · obtain rfl : j = acc.length:=by omega
    rw [if_neg h,Nat.sub_self,List.getD_eq_getElem?_getD (l:=acc ++ _),List.getElem?_append_right (by omega),Nat.sub_self]
    exact Le.refl _
def cvB (k : Nat) (F : D) (B : List (Txt × Txt)) (R : Txt × Txt) (T E : D) : Blk:=.var true 7 (.agg [.int .i64 k,F,txD B, .str R.1, .str R.2,T,E])
theorem LeV_cl {k : Int} {F : List (List Tm)} {B : List (Txt × Txt)} {R : Txt × Txt} {T : List Txt} {E : List (List (Txt × Txt))} {D1 D2 D3 : D} (h1 : LeV D1 (fsD F)) (h2 : LeV D2 (tlD T)) (h3 : LeV D3 (esD E)) :
    LeV (.agg [.int .i64 k,D1,txD B, .str R.1, .str R.2,D2,D3]) (clD ⟨k,F,B,R,T,E⟩):=
  LeV.agg (LesV.cons (LeV.refl _) (LesV.cons h1 (LesV.cons (LeV.refl _) (LesV.cons (LeV.refl _) (LesV.cons (LeV.refl _) (LesV.cons h2 (LesV.cons h3 LesV.nil)))))))
theorem LeV_clN (k : Int) (F : List (List Tm)) (B : List (Txt × Txt)) (R : Txt × Txt) : LeV (.agg [.int .i64 k, .ro false 1 F.length fun i => fsR F i,txD B, .str R.1, .str R.2, .nils, .nils]) (clD ⟨k,F,B,R,[],[]⟩):=
  LeV_cl (D1:=.ro false 1 F.length fun i => fsR F i) (D2:=.nils) (D3:=.nils) (LeV.refl (fsD F)) LeV.nils LeV.nils
theorem LeV_clE (k : Int) (F : List (List Tm)) (B : List (Txt × Txt)) (R : Txt × Txt) (T : List Txt) (E : List (List (Txt × Txt))) : LeV (.agg [.int .i64 k, .ro false 1 F.length fun i => fsR F i,txD B, .str R.1, .str R.2, .ro false 1 T.length fun i => tR T i, .ro false 1 E.length fun i => esR E i]) (clD ⟨k,F,B,R,T,E⟩):=
  LeV_cl (D1:=.ro false 1 F.length fun i => fsR F i) (D2:=.ro false 1 T.length fun i => tR T i) (D3:=.ro false 1 E.length fun i => esR E i) (LeV.refl (fsD F)) (LeV.refl (tlD T)) (LeV.refl (esD E))
theorem in_claim {b : Txt} {l : Lm} {s : Rs} (hs : RsOk b s) (hb : b.length < 100000) (hl : l.ok) : CG E 78 [.ad 0 0] (rdH b l s) (clD (clF b l s).1) (rdH b l (clF b l s).2):=by
  refine CG_introz Tryz.func78 rfl (by kernel_rfl) rfl (by kernel_rfl) (by kernel_rfl) rfl ?_
  have g:=stg l hb hs
  have hok:=clC_ok (l:=l) hb hs
  have hF : clF b l s = frm opnB (clC b l s):=rfl
  have hC : clC b l s = clC b l s:=rfl
  conv at hC => rhs;unfold clC
  have k1:=in_count (l:=l) hs (by omega) (lo:=1) (hi:=5) (by omega)
  have k2:=in_count (l:=l) g.s1 (by omega) (lo:=1) (hi:=3) (by omega)
  have k3:=in_box (l:=l) g.s2 (by omega) hl (n:=(cF2 b s).1) (by have:=g.n2;omega)
  have k4:=in_count (l:=l) g.s3 (by omega) (lo:=1) (hi:=3) (by omega)
  have k6:=in_pair (l:=l) g.s5 (by omega) hl
  have k7:=in_count (l:=l) g.s6 (by omega) (lo:=1) (hi:=8) (by omega)
  have e5 : cF5 b l s = psG b l (cF4 b l s).1 [] (cF4 b l s).2:=rfl
  have e6 : cF6 b l s = if (cF1 b s).1 = 2 then prF b l.b (cF5 b l s).2 else (([],[]),(cF5 b l s).2):=rfl
  have e8 : cF8 b l s = tsG b l.b (cF7 b l s).1 [] (cF7 b l s).2:=rfl
  have e9 : cF9 b l s = esG b l.b (cF2 b s).1 (cF7 b l s).1 [] (cF8 b l s).2:=rfl
  rw [show cnF b 1 5 s = cF1 b s from rfl] at k1
  rw [show cnF b 1 3 (cF1 b s).2 = cF2 b s from rfl] at k2
  rw [show bxF b l.b (cF2 b s).1 (cF2 b s).2 = cF3 b l s from rfl] at k3
  rw [show cnF b 1 3 (cF3 b l s).2 = cF4 b l s from rfl] at k4
  rw [show cnF b 1 8 (cF6 b l s).2 = cF7 b l s from rfl] at k7
  obtain ⟨s1,s2,s3,s4,s5,s6,s7,s8,s9,n1,n2,n4,n7,hB,hFF,hR,hT,hE⟩:=g
  generalize clF b l s = res at *
  generalize clC b l s = cr at *
  generalize cF9 b l s = x9 at *
  generalize cF8 b l s = x8 at *
  generalize cF7 b l s = x7 at *
  generalize cF6 b l s = x6 at *
  generalize cF5 b l s = x5 at *
  generalize cF4 b l s = x4 at *
  generalize cF3 b l s = x3 at *
  generalize cF2 b s = x2 at *
  generalize cF1 b s = x1 at *
  obtain ⟨kk,q1⟩:=x1
  obtain ⟨n,q2⟩:=x2
  obtain ⟨B,q3⟩:=x3
  obtain ⟨M,q4⟩:=x4
  simp only at k1 k2 k3 k4 e5 s4 n1 n2 n4
  simp (maxSteps:=3000000) (disch:=first|exact dd|fail) only [go_sem,seval,rdH,rdB]
  refine callG [0] k1 rfl rfl (LesV.refl _) rfl ?_
  simp (maxSteps:=3000000) (disch:=first|exact dd|fail) only [go_sem,seval,rdH,rdB]
  refine callG [0] k2 rfl rfl (LesV.refl _) rfl ?_
  simp (maxSteps:=3000000) (disch:=first|exact dd|fail) only [go_sem,seval,rdH,rdB]
  refine callG [0] k3 rfl rfl (LesV.refl _) rfl ?_
  simp (maxSteps:=3000000) (disch:=first|exact dd|fail) only [go_sem,seval,rdH,rdB]
  refine callG [0] k4 rfl rfl (LesV.refl _) rfl ?_
  simp (maxSteps:=3000000) (disch:=first|exact dd|fail) only [go_sem,seval,rdH,rdB]
  have hMM : M - 0 = M:=rfl
  refine AL.ofW (fun x : List (List Tm) × Rs => psG b l M [] q4 = psG b l (M - x.1.length) x.1 x.2 ∧ x.1.length ≤ M ∧ RsOk b x.2 ∧ ∀ t ∈ x.1,shP t) (fun x => M - x.1.length)
    (fun x => [(0, .ad 0 0),(2, .ad 1 0),(3, .ad 3 0),(4, .int .i64 n),(5, .int .i64 ((M - x.1.length : Nat) : Int))])
    (fun x => [(0,rdB b l x.2),(1, .var true 7 (.agg [.int .i64 0, .nils, .nils, .str [], .str [], .nils, .nils])),(3,cvB kk (.sl 7 x.1.length 0 x.1.length) B ([],[]) .nils .nils),(7, .row false x.1.length false 1 x.1.length (fsR x.1))]) ([],q4)
    (Wk.nilV 3 1 false 1 (fun _ => .unk) rfl rfl (Nat.le_refl _)) (Nat.le_succ _) ⟨rfl,Nat.zero_le _,s4,fun t ht => nomatch ht⟩ ?_ ?_ ?_ ?_
  · simp (disch:=first|exact dd|fail) only [go_sem,seval,List.length_nil,hMM]
    try exact LeV.refl _
  · simp (disch:=first|exact dd|fail) only [go_sem,seval,rdB,cvB,List.length_nil,List.set_cons_succ,List.set_cons_zero]
    all_goals first | exact fun j hj => absurd hj (by omega) | exact ⟨LeV.refl _,fun j hj => absurd hj (by omega)⟩
  · intro x _;simp (disch:=first|exact dd|fail) only [go_sem,seval,rdB,cvB]
  rintro ⟨acc,s⟩ ⟨h1,h2,h3,h4⟩
  simp only at h1 h2 h3 h4
  by_cases hk : acc.length = M
  case neg =>
    clear hok hF hC k1 k2 k3 k4 k6 k7 e5 e6 e8 e9 s1 s2 s3 s4 s5 s6 s7 s8 s9 hB hFF hR hT hE
    have hg:=in_poly (l:=l) h3 hb hl
    have hg2:=(plF_rs (T:=l.t) (bits:=l.b) h3).1
    have hg3:=plF_shP (l:=l) hb h3
    have hnx : psG b l (M - acc.length) acc s = psG b l (M - acc.length - 1) (acc ++ [(plF b l.t l.b s).1]) (plF b l.t l.b s).2:=by
      conv => lhs;rw [show M - acc.length = (M - acc.length - 1) + 1 by omega,psG]
    have hap:=fun (j : Nat) => fsR_app (acc:=acc) (t:=(plF b l.t l.b s).1) (j:=j)
    have hal : ∀ p : List Tm,(acc ++ [p]).length = acc.length + 1:=fun p => by rw [List.length_append,List.length_singleton]
    generalize plF b l.t l.b s = x at *
    obtain ⟨t,sx⟩:=x
    obtain ⟨p,e⟩:=s
    obtain ⟨r1,r2⟩:=h3
    simp only at hg hg2 hg3 hnx hap r1 r2
    have hsub : ((M - acc.length : Nat) : Int) - 1 = ((M - (acc.length + 1) : Nat) : Int):=by omega
    simp (disch:=first|exact dd|fail) only [go_sem,seval,rdB,cvB]
    refine AReg_anyG (fun g => g == 74) 8 [0,1,2,3,4,5,6,7] (fun _ _ => rfl) rfl rfl (by decide +kernel) ?_
    refine AAny_free 2 [0,1,3,4,5,6,7] (by decide +kernel) rfl ?_
    refine AI_at _ rfl ?_
    simp (disch:=first|exact dd|fail) only [go_sem,seval,rdB,cvB]
    refine AAny_step [(0,[1,3,4,5,6,7]),(3,[0,1,4,5,6,7])] (by decide +kernel) rfl ?_
    refine forall_more ?_ ?_
    · refine AI_at _ rfl ?_
      simp (disch:=first|exact dd|fail) only [go_sem,seval,rdB,cvB]
      refine AAny_step [(1,[3,4,5,6,7]),(3,[1,4,5,6,7])] (by decide +kernel) rfl ?_
      refine forall_more ?_ ?_
      · refine AI_at _ rfl ?_
        simp (disch:=first|exact dd|fail) only [go_sem,seval,rdB,cvB]
        refine AAny_free 3 [4,5,6,7] (by decide +kernel) rfl ?_
        refine AI_at _ rfl ?_
        simp (disch:=first|exact dd|fail) only [go_sem,seval,rdB,cvB]
        refine callG [0] hg rfl rfl (LesV.refl _) rfl ?_
        simp (disch:=first|exact dd|fail) only [go_sem,seval,rdH,rdB]
        refine AAny_free 4 [5,6,7] (by decide +kernel) rfl ?_
        refine AI_at _ rfl ?_
        simp (disch:=first|exact dd|fail) only [go_sem,seval,rdB,cvB]
        refine AAny_free 5 [6,7] (by decide +kernel) rfl ?_
        refine AI_at _ rfl ?_
        simp (disch:=first|exact dd|fail) only [go_sem,seval,rdB,cvB]
        refine ⟨.inl trivial, .inr trivial,by omega,by omega, ?_⟩
        refine AAny_free 6 [7] (by decide +kernel) rfl ?_
        refine AI_at _ rfl ?_
        simp (disch:=first|exact dd|fail) only [go_sem,seval,rdB,cvB]
        refine AAny_free 7 [] (by decide +kernel) rfl ?_
        refine AI_at _ rfl ?_
        simp (disch:=first|exact dd|fail) only [go_sem,seval,rdB,cvB]
        refine AAny_end ?_
        simp (disch:=first|exact dd|fail) only [go_sem,seval,hsub]
        refine ⟨(acc ++ [t],sx),⟨by rw [h1,hnx,hal,Nat.sub_sub],by show (acc ++ [t]).length ≤ M;rw [hal];omega,hg2,snoc_mem h4 hg3⟩,by show M - (acc ++ [t]).length < M - acc.length;rw [hal];omega, ?_, ?_⟩
        · simp (disch:=first|exact dd|fail) only [go_sem,seval,hal]
          try exact LeV.refl _
        · simp (disch:=first|exact dd|fail) only [go_sem,seval,rdB,cvB,hal]
          all_goals first | exact fun j hj => hap j (by omega) | exact ⟨LeV.refl _,fun j hj => hap j (by omega)⟩
      refine forall_one ?_
      refine AI_at _ rfl ?_
      simp (disch:=first|exact dd|fail) only [go_sem,seval,rdB,cvB]
      refine callG [0] hg rfl rfl (LesV.refl _) rfl ?_
      simp (disch:=first|exact dd|fail) only [go_sem,seval,rdH,rdB]
      refine AAny_free 1 [4,5,6,7] (by decide +kernel) rfl ?_
      refine AI_at _ rfl ?_
      simp (disch:=first|exact dd|fail) only [go_sem,seval,rdB,cvB]
      refine AAny_free 4 [5,6,7] (by decide +kernel) rfl ?_
      refine AI_at _ rfl ?_
      simp (disch:=first|exact dd|fail) only [go_sem,seval,rdB,cvB]
      refine AAny_free 5 [6,7] (by decide +kernel) rfl ?_
      refine AI_at _ rfl ?_
      simp (disch:=first|exact dd|fail) only [go_sem,seval,rdB,cvB]
      refine ⟨.inl trivial, .inr trivial,by omega,by omega, ?_⟩
      refine AAny_free 6 [7] (by decide +kernel) rfl ?_
      refine AI_at _ rfl ?_
      simp (disch:=first|exact dd|fail) only [go_sem,seval,rdB,cvB]
      refine AAny_free 7 [] (by decide +kernel) rfl ?_
      refine AI_at _ rfl ?_
      simp (disch:=first|exact dd|fail) only [go_sem,seval,rdB,cvB]
      refine AAny_end ?_
      simp (disch:=first|exact dd|fail) only [go_sem,seval,hsub]
      refine ⟨(acc ++ [t],sx),⟨by rw [h1,hnx,hal,Nat.sub_sub],by show (acc ++ [t]).length ≤ M;rw [hal];omega,hg2,snoc_mem h4 hg3⟩,by show M - (acc ++ [t]).length < M - acc.length;rw [hal];omega, ?_, ?_⟩
      · simp (disch:=first|exact dd|fail) only [go_sem,seval,hal]
        try exact LeV.refl _
      · simp (disch:=first|exact dd|fail) only [go_sem,seval,rdB,cvB,hal]
        all_goals first | exact fun j hj => hap j (by omega) | exact ⟨LeV.refl _,fun j hj => hap j (by omega)⟩
    refine forall_one ?_
    refine AI_at _ rfl ?_
    simp (disch:=first|exact dd|fail) only [go_sem,seval,rdB,cvB]
    refine callG [0] hg rfl rfl (LesV.refl _) rfl ?_
    simp (disch:=first|exact dd|fail) only [go_sem,seval,rdH,rdB]
    refine AAny_free 0 [1,4,5,6,7] (by decide +kernel) rfl ?_
    refine AI_at _ rfl ?_
    simp (disch:=first|exact dd|fail) only [go_sem,seval,rdB,cvB]
    refine AAny_free 1 [4,5,6,7] (by decide +kernel) rfl ?_
    refine AI_at _ rfl ?_
    simp (disch:=first|exact dd|fail) only [go_sem,seval,rdB,cvB]
    refine AAny_free 4 [5,6,7] (by decide +kernel) rfl ?_
    refine AI_at _ rfl ?_
    simp (disch:=first|exact dd|fail) only [go_sem,seval,rdB,cvB]
    refine AAny_free 5 [6,7] (by decide +kernel) rfl ?_
    refine AI_at _ rfl ?_
    simp (disch:=first|exact dd|fail) only [go_sem,seval,rdB,cvB]
    refine ⟨.inl trivial, .inr trivial,by omega,by omega, ?_⟩
    refine AAny_free 6 [7] (by decide +kernel) rfl ?_
    refine AI_at _ rfl ?_
    simp (disch:=first|exact dd|fail) only [go_sem,seval,rdB,cvB]
    refine AAny_free 7 [] (by decide +kernel) rfl ?_
    refine AI_at _ rfl ?_
    simp (disch:=first|exact dd|fail) only [go_sem,seval,rdB,cvB]
    refine AAny_end ?_
    simp (disch:=first|exact dd|fail) only [go_sem,seval,hsub]
    refine ⟨(acc ++ [t],sx),⟨by rw [h1,hnx,hal,Nat.sub_sub],by show (acc ++ [t]).length ≤ M;rw [hal];omega,hg2,snoc_mem h4 hg3⟩,by show M - (acc ++ [t]).length < M - acc.length;rw [hal];omega, ?_, ?_⟩
    · simp (disch:=first|exact dd|fail) only [go_sem,seval,hal]
      try exact LeV.refl _
    · simp (disch:=first|exact dd|fail) only [go_sem,seval,rdB,cvB,hal]
      all_goals first | exact fun j hj => hap j (by omega) | exact ⟨LeV.refl _,fun j hj => hap j (by omega)⟩
  have hst : x5 = (acc,s):=by rw [e5,h1,hk,Nat.sub_self];rfl
  subst hst
  have h0 : ((M - acc.length : Nat) : Int) = 0:=by omega
  clear k1 k2 k3 k4 h1 e5
  simp only at k6 e6 hFF s5
  by_cases c2 : kk = 2
  · rw [if_pos c2] at e6
    rw [← e6] at k6
    rw [if_neg (by simp only;omega)] at hC
    obtain ⟨⟨ra,rb⟩,⟨p6,e6'⟩⟩:=x6
    subst hC
    have hRr:=claim_Right hok.1
    simp only at k6 hRr hok s6
    obtain ⟨o1,o2⟩:=s6
    simp only at o1 o2
    obtain ⟨p,e⟩:=s
    simp (disch:=first|exact dd|fail) only [go_sem,seval,rdB,cvB,h0]
    refine callG [0] k6 rfl rfl (LesV.refl _) rfl ?_
    simp (disch:=first|exact dd|fail) only [go_sem,seval,rdH,rdB]
    by_cases he : e6' = 0
    · subst he
      cases ho : opnB (⟨kk,acc,B,(ra,rb),[],[]⟩ : Cl) with
      | true =>
        rw [frm_ok ho] at hF
        subst hF
        rw [ho] at hRr
        simp (maxSteps:=3000000) (disch:=first|exact dd|fail) only [go_sem,seval,rdB]
        refine callC hRr ?_ rfl ?_
        · simp (disch:=first|exact dd|fail) only [go_sem,seval]
          exact LesV.cons (LeV_clN _ _ _ (ra,rb)) LesV.nil
        simp (maxSteps:=3000000) (disch:=first|exact dd|fail) only [go_sem,seval,rdB]
        exact LeV_clN _ _ _ (ra,rb)
      | false =>
        rw [frm_no rfl ho] at hF
        subst hF
        rw [ho] at hRr
        simp (maxSteps:=3000000) (disch:=first|exact dd|fail) only [go_sem,seval,rdB]
        refine callC hRr ?_ rfl ?_
        · simp (disch:=first|exact dd|fail) only [go_sem,seval]
          exact LesV.cons (LeV_clN _ _ _ (ra,rb)) LesV.nil
        simp (maxSteps:=3000000) (disch:=first|exact dd|fail) only [go_sem,seval,rdB]
        exact LeV_clN _ _ _ (ra,rb)
    · rw [frm_err he] at hF
      subst hF
      simp (maxSteps:=3000000) (disch:=first|exact dd|fail) only [go_sem,seval,rdB]
      exact LeV_clN _ _ _ (ra,rb)
  rw [if_neg c2] at e6
  subst e6
  by_cases c5 : kk = 5
  case neg =>
    rw [if_neg (by simp only;omega)] at hC
    subst hC
    have hRr:=claim_Right hok.1
    obtain ⟨p,e⟩:=s
    obtain ⟨o1,o2⟩:=s5
    simp only at o1 o2 hRr hok
    simp (disch:=first|exact dd|fail) only [go_sem,seval,rdB,cvB,h0]
    by_cases he : e = 0
    · subst he
      cases ho : opnB (⟨kk,acc,B,([],[]),[],[]⟩ : Cl) with
      | true =>
        rw [frm_ok ho] at hF
        subst hF
        rw [ho] at hRr
        simp (maxSteps:=3000000) (disch:=first|exact dd|fail) only [go_sem,seval,rdB]
        refine callC hRr ?_ rfl ?_
        · simp (disch:=first|exact dd|fail) only [go_sem,seval]
          exact LesV.cons (LeV_clN _ _ _ ([],[])) LesV.nil
        simp (maxSteps:=3000000) (disch:=first|exact dd|fail) only [go_sem,seval,rdB]
        exact LeV_clN _ _ _ ([],[])
      | false =>
        rw [frm_no rfl ho] at hF
        subst hF
        rw [ho] at hRr
        simp (maxSteps:=3000000) (disch:=first|exact dd|fail) only [go_sem,seval,rdB]
        refine callC hRr ?_ rfl ?_
        · simp (disch:=first|exact dd|fail) only [go_sem,seval]
          exact LesV.cons (LeV_clN _ _ _ ([],[])) LesV.nil
        simp (maxSteps:=3000000) (disch:=first|exact dd|fail) only [go_sem,seval,rdB]
        exact LeV_clN _ _ _ ([],[])
    · rw [frm_err he] at hF
      subst hF
      simp (maxSteps:=3000000) (disch:=first|exact dd|fail) only [go_sem,seval,rdB]
      exact LeV_clN _ _ _ ([],[])
  rw [if_pos (by simp only;omega)] at hC
  obtain ⟨m7,q7⟩:=x7
  simp only at k7 e8 e9 n7 hT hE s7
  obtain ⟨p,e⟩:=s
  simp (disch:=first|exact dd|fail) only [go_sem,seval,rdB,cvB,h0]
  refine callG [0] k7 rfl rfl (LesV.refl _) rfl ?_
  simp (disch:=first|exact dd|fail) only [go_sem,seval,rdH,rdB]
  refine AL.ofW (fun x : List Txt × Rs => tsG b l.b m7 [] q7 = tsG b l.b (m7 - x.1.length) x.1 x.2 ∧ x.1.length ≤ m7 ∧ RsOk b x.2 ∧ ∀ t ∈ x.1,shT t) (fun x => m7 - x.1.length)
    (fun x => [(0, .ad 0 0),(2, .ad 1 0),(3, .ad 3 0),(4, .int .i64 n),(6, .int .i64 m7),(40, .int .i64 m7),(41, .int .i64 x.1.length)])
    (fun x => [(0,rdB b l x.2),(1, .var true 7 (.agg [.int .i64 0, .nils, .nils, .str [], .str [], .nils, .nils])),(3,cvB kk (.sl 7 acc.length 0 acc.length) B ([],[]) (.sl 9 x.1.length 0 x.1.length) .nils),(7, .row false acc.length false 1 acc.length (fsR acc)),(9, .row false x.1.length false 1 x.1.length (tR x.1))]) ([],q7)
    (Wk.nilV 3 5 false 1 (fun _ => .unk) rfl rfl (Nat.le_refl _)) (Nat.le_succ _) ⟨rfl,Nat.zero_le _,s7,fun t ht => nomatch ht⟩ ?_ ?_ ?_ ?_
  · simp (disch:=first|exact dd|fail) only [go_sem,seval,List.length_nil]
    try exact LeV.refl _
  · simp (disch:=first|exact dd|fail) only [go_sem,seval,rdB,cvB,List.length_nil,List.set_cons_succ,List.set_cons_zero]
    all_goals first | exact ⟨fun _ _ => trivial,fun j hj => absurd hj (by omega)⟩ | exact ⟨LeV.refl _,fun _ _ => trivial,fun j hj => absurd hj (by omega)⟩
  · intro x _;simp (disch:=first|exact dd|fail) only [go_sem,seval,rdB,cvB]
  have hFacc:=hFF
  clear h0 h2 h3 h4 hk hFF k7
  generalize acc = F at *
  rintro ⟨acc,s⟩ ⟨h1,h2,h3,h4⟩
  simp only at h1 h2 h3 h4
  by_cases hk : acc.length = m7
  case neg =>
    clear hok hF hC k6 e8 e9 s1 s2 s3 s4 s5 s6 s7 s8 s9 hB hR hT hE hFacc
    have hg:=in_rat (l:=l) h3 (by omega) hl
    have hg2:=raF_rs (bits:=l.b) h3
    have hg3 : shT (raF b l.b s).1:=raF_sh (by omega)
    have hnx : tsG b l.b (m7 - acc.length) acc s = tsG b l.b (m7 - acc.length - 1) (acc ++ [(raF b l.b s).1]) (raF b l.b s).2:=by
      conv => lhs;rw [show m7 - acc.length = (m7 - acc.length - 1) + 1 by omega,tsG]
    have hap:=fun (j : Nat) => tR_app (acc:=acc) (t:=(raF b l.b s).1) (j:=j)
    have hal : ∀ p : Txt,(acc ++ [p]).length = acc.length + 1:=fun p => by rw [List.length_append,List.length_singleton]
    generalize raF b l.b s = x at *
    obtain ⟨t,sx⟩:=x
    obtain ⟨p,e⟩:=s
    obtain ⟨r1,r2⟩:=h3
    simp only at hg hg2 hg3 hnx hap r1 r2
    simp (disch:=first|exact dd|fail) only [go_sem,seval,rdB,cvB]
    refine AReg_anyG (fun g => g == 113) 8 [0,1,2,3,4,5,6,7] (fun _ _ => rfl) rfl rfl (by decide +kernel) ?_
    refine AAny_free 2 [0,1,3,4,5,6,7] (by decide +kernel) rfl ?_
    refine AI_at _ rfl ?_
    simp (disch:=first|exact dd|fail) only [go_sem,seval,rdB,cvB]
    refine AAny_step [(0,[1,3,4,5,6,7]),(3,[0,1,4,5,6,7])] (by decide +kernel) rfl ?_
    refine forall_more ?_ ?_
    · refine AI_at _ rfl ?_
      simp (disch:=first|exact dd|fail) only [go_sem,seval,rdB,cvB]
      refine AAny_step [(1,[3,4,5,6,7]),(3,[1,4,5,6,7])] (by decide +kernel) rfl ?_
      refine forall_more ?_ ?_
      · refine AI_at _ rfl ?_
        simp (disch:=first|exact dd|fail) only [go_sem,seval,rdB,cvB]
        refine AAny_free 3 [4,5,6,7] (by decide +kernel) rfl ?_
        refine AI_at _ rfl ?_
        simp (disch:=first|exact dd|fail) only [go_sem,seval,rdB,cvB]
        refine callG [0] hg rfl rfl (LesV.refl _) rfl ?_
        simp (disch:=first|exact dd|fail) only [go_sem,seval,rdH,rdB]
        refine AAny_free 4 [5,6,7] (by decide +kernel) rfl ?_
        refine AI_at _ rfl ?_
        simp (disch:=first|exact dd|fail) only [go_sem,seval,rdB,cvB]
        refine AAny_free 5 [6,7] (by decide +kernel) rfl ?_
        refine AI_at _ rfl ?_
        simp (disch:=first|exact dd|fail) only [go_sem,seval,rdB,cvB]
        refine ⟨.inl trivial, .inr trivial,by omega,by omega, ?_⟩
        refine AAny_free 6 [7] (by decide +kernel) rfl ?_
        refine AI_at _ rfl ?_
        simp (disch:=first|exact dd|fail) only [go_sem,seval,rdB,cvB]
        refine AAny_free 7 [] (by decide +kernel) rfl ?_
        refine AI_at _ rfl ?_
        simp (disch:=first|exact dd|fail) only [go_sem,seval,rdB,cvB]
        refine AAny_end ?_
        simp (disch:=first|exact dd|fail) only [go_sem,seval]
        refine ⟨(acc ++ [t],sx),⟨by rw [h1,hnx,hal,Nat.sub_sub],by show (acc ++ [t]).length ≤ m7;rw [hal];omega,hg2,snoc_mem h4 hg3⟩,by show m7 - (acc ++ [t]).length < m7 - acc.length;rw [hal];omega, ?_, ?_⟩
        · simp (disch:=first|exact dd|fail) only [go_sem,seval,hal]
          try exact LeV.refl _
        · simp (disch:=first|exact dd|fail) only [go_sem,seval,rdB,cvB,hal]
          all_goals first | exact ⟨fun _ _ => trivial,fun j hj => hap j (by omega)⟩ | exact ⟨LeV.refl _,fun _ _ => trivial,fun j hj => hap j (by omega)⟩
      refine forall_one ?_
      refine AI_at _ rfl ?_
      simp (disch:=first|exact dd|fail) only [go_sem,seval,rdB,cvB]
      refine callG [0] hg rfl rfl (LesV.refl _) rfl ?_
      simp (disch:=first|exact dd|fail) only [go_sem,seval,rdH,rdB]
      refine AAny_free 1 [4,5,6,7] (by decide +kernel) rfl ?_
      refine AI_at _ rfl ?_
      simp (disch:=first|exact dd|fail) only [go_sem,seval,rdB,cvB]
      refine AAny_free 4 [5,6,7] (by decide +kernel) rfl ?_
      refine AI_at _ rfl ?_
      simp (disch:=first|exact dd|fail) only [go_sem,seval,rdB,cvB]
      refine AAny_free 5 [6,7] (by decide +kernel) rfl ?_
      refine AI_at _ rfl ?_
      simp (disch:=first|exact dd|fail) only [go_sem,seval,rdB,cvB]
      refine ⟨.inl trivial, .inr trivial,by omega,by omega, ?_⟩
      refine AAny_free 6 [7] (by decide +kernel) rfl ?_
      refine AI_at _ rfl ?_
      simp (disch:=first|exact dd|fail) only [go_sem,seval,rdB,cvB]
      refine AAny_free 7 [] (by decide +kernel) rfl ?_
      refine AI_at _ rfl ?_
      simp (disch:=first|exact dd|fail) only [go_sem,seval,rdB,cvB]
      refine AAny_end ?_
      simp (disch:=first|exact dd|fail) only [go_sem,seval]
      refine ⟨(acc ++ [t],sx),⟨by rw [h1,hnx,hal,Nat.sub_sub],by show (acc ++ [t]).length ≤ m7;rw [hal];omega,hg2,snoc_mem h4 hg3⟩,by show m7 - (acc ++ [t]).length < m7 - acc.length;rw [hal];omega, ?_, ?_⟩
      · simp (disch:=first|exact dd|fail) only [go_sem,seval,hal]
        try exact LeV.refl _
      · simp (disch:=first|exact dd|fail) only [go_sem,seval,rdB,cvB,hal]
        all_goals first | exact ⟨fun _ _ => trivial,fun j hj => hap j (by omega)⟩ | exact ⟨LeV.refl _,fun _ _ => trivial,fun j hj => hap j (by omega)⟩
    refine forall_one ?_
    refine AI_at _ rfl ?_
    simp (disch:=first|exact dd|fail) only [go_sem,seval,rdB,cvB]
    refine callG [0] hg rfl rfl (LesV.refl _) rfl ?_
    simp (disch:=first|exact dd|fail) only [go_sem,seval,rdH,rdB]
    refine AAny_free 0 [1,4,5,6,7] (by decide +kernel) rfl ?_
    refine AI_at _ rfl ?_
    simp (disch:=first|exact dd|fail) only [go_sem,seval,rdB,cvB]
    refine AAny_free 1 [4,5,6,7] (by decide +kernel) rfl ?_
    refine AI_at _ rfl ?_
    simp (disch:=first|exact dd|fail) only [go_sem,seval,rdB,cvB]
    refine AAny_free 4 [5,6,7] (by decide +kernel) rfl ?_
    refine AI_at _ rfl ?_
    simp (disch:=first|exact dd|fail) only [go_sem,seval,rdB,cvB]
    refine AAny_free 5 [6,7] (by decide +kernel) rfl ?_
    refine AI_at _ rfl ?_
    simp (disch:=first|exact dd|fail) only [go_sem,seval,rdB,cvB]
    refine ⟨.inl trivial, .inr trivial,by omega,by omega, ?_⟩
    refine AAny_free 6 [7] (by decide +kernel) rfl ?_
    refine AI_at _ rfl ?_
    simp (disch:=first|exact dd|fail) only [go_sem,seval,rdB,cvB]
    refine AAny_free 7 [] (by decide +kernel) rfl ?_
    refine AI_at _ rfl ?_
    simp (disch:=first|exact dd|fail) only [go_sem,seval,rdB,cvB]
    refine AAny_end ?_
    simp (disch:=first|exact dd|fail) only [go_sem,seval]
    refine ⟨(acc ++ [t],sx),⟨by rw [h1,hnx,hal,Nat.sub_sub],by show (acc ++ [t]).length ≤ m7;rw [hal];omega,hg2,snoc_mem h4 hg3⟩,by show m7 - (acc ++ [t]).length < m7 - acc.length;rw [hal];omega, ?_, ?_⟩
    · simp (disch:=first|exact dd|fail) only [go_sem,seval,hal]
      try exact LeV.refl _
    · simp (disch:=first|exact dd|fail) only [go_sem,seval,rdB,cvB,hal]
      all_goals first | exact ⟨fun _ _ => trivial,fun j hj => hap j (by omega)⟩ | exact ⟨LeV.refl _,fun _ _ => trivial,fun j hj => hap j (by omega)⟩
  have hst : x8 = (acc,s):=by rw [e8,h1,hk,Nat.sub_self];rfl
  subst hst
  simp only at e9 hT s8
  obtain ⟨p,e⟩:=s
  simp (disch:=first|exact dd|fail) only [go_sem,seval,rdB,cvB]
  refine AL.ofW (fun x : List (List (Txt × Txt)) × Rs => esG b l.b n m7 [] (p,e) = esG b l.b n (m7 - x.1.length) x.1 x.2 ∧ x.1.length ≤ m7 ∧ RsOk b x.2 ∧ ∀ t ∈ x.1,shB t) (fun x => m7 - x.1.length)
    (fun x => [(0, .ad 0 0),(2, .ad 1 0),(3, .ad 3 0),(4, .int .i64 n),(51, .int .i64 m7),(52, .int .i64 x.1.length)])
    (fun x => [(0,rdB b l x.2),(1, .var true 7 (.agg [.int .i64 0, .nils, .nils, .str [], .str [], .nils, .nils])),(3,cvB kk (.sl 7 F.length 0 F.length) B ([],[]) (.sl 9 acc.length 0 acc.length) (.sl 10 x.1.length 0 x.1.length)),(7, .row false F.length false 1 F.length (fsR F)),(9, .row false acc.length false 1 acc.length (tR acc)),(10, .row false x.1.length false 1 x.1.length (esR x.1))]) ([],(p,e))
    (Wk.nilV 3 6 false 1 (fun _ => .unk) rfl rfl (Nat.le_refl _)) (Nat.le_succ _) ⟨rfl,Nat.zero_le _,s8,fun t ht => nomatch ht⟩ ?_ ?_ ?_ ?_
  · simp (disch:=first|exact dd|fail) only [go_sem,seval,List.length_nil]
    try exact LeV.refl _
  · simp (disch:=first|exact dd|fail) only [go_sem,seval,rdB,cvB,List.length_nil,List.set_cons_succ,List.set_cons_zero]
    all_goals first | exact ⟨fun _ _ => trivial,fun _ _ => trivial,fun j hj => absurd hj (by omega)⟩ | exact ⟨LeV.refl _,fun _ _ => trivial,fun _ _ => trivial,fun j hj => absurd hj (by omega)⟩
  · intro x _;simp (disch:=first|exact dd|fail) only [go_sem,seval,rdB,cvB]
  have hTacc:=hT
  have hkT:=hk
  clear h2 h3 h4 hk h1 e8
  generalize acc = T at *
  rintro ⟨acc,s⟩ ⟨h1,h2,h3,h4⟩
  simp only at h1 h2 h3 h4
  by_cases hk : acc.length = m7
  case neg =>
    clear hok hF hC k6 e9 s1 s2 s3 s4 s5 s6 s7 s8 s9 hB hR hT hE hFacc hTacc
    have hg:=in_box (l:=l) h3 (by omega) hl (n:=n) (by omega)
    have hg2:=(bxF_rs (bits:=l.b) (n:=n) h3).1
    have hg3:=bxF_shB (bits:=l.b) (n:=n) hb h3 n2
    have hnx : esG b l.b n (m7 - acc.length) acc s = esG b l.b n (m7 - acc.length - 1) (acc ++ [(bxF b l.b n s).1]) (bxF b l.b n s).2:=by
      conv => lhs;rw [show m7 - acc.length = (m7 - acc.length - 1) + 1 by omega,esG]
    have hap:=fun (j : Nat) => esR_app (acc:=acc) (t:=(bxF b l.b n s).1) (j:=j)
    have hal : ∀ p : List (Txt × Txt),(acc ++ [p]).length = acc.length + 1:=fun p => by rw [List.length_append,List.length_singleton]
    generalize bxF b l.b n s = x at *
    obtain ⟨t,sx⟩:=x
    obtain ⟨p',e'⟩:=s
    obtain ⟨r1,r2⟩:=h3
    simp only at hg hg2 hg3 hnx hap r1 r2
    simp (disch:=first|exact dd|fail) only [go_sem,seval,rdB,cvB]
    refine AReg_anyG (fun g => g == 70) 9 [0,1,2,3,4,5,6,7,8] (fun _ _ => rfl) rfl rfl (by decide +kernel) ?_
    refine AAny_free 2 [0,1,3,4,5,6,7,8] (by decide +kernel) rfl ?_
    refine AI_at _ rfl ?_
    simp (disch:=first|exact dd|fail) only [go_sem,seval,rdB,cvB]
    refine AAny_free 3 [0,1,4,5,6,7,8] (by decide +kernel) rfl ?_
    refine AI_at _ rfl ?_
    simp (disch:=first|exact dd|fail) only [go_sem,seval,rdB,cvB]
    refine AAny_step [(0,[1,4,5,6,7,8]),(4,[0,1,5,6,7,8])] (by decide +kernel) rfl ?_
    refine forall_more ?_ ?_
    · refine AI_at _ rfl ?_
      simp (disch:=first|exact dd|fail) only [go_sem,seval,rdB,cvB]
      refine AAny_step [(1,[4,5,6,7,8]),(4,[1,5,6,7,8])] (by decide +kernel) rfl ?_
      refine forall_more ?_ ?_
      · refine AI_at _ rfl ?_
        simp (disch:=first|exact dd|fail) only [go_sem,seval,rdB,cvB]
        refine AAny_free 4 [5,6,7,8] (by decide +kernel) rfl ?_
        refine AI_at _ rfl ?_
        simp (disch:=first|exact dd|fail) only [go_sem,seval,rdB,cvB]
        refine callG [0] hg rfl rfl (LesV.refl _) rfl ?_
        simp (disch:=first|exact dd|fail) only [go_sem,seval,rdH,rdB]
        refine AAny_free 5 [6,7,8] (by decide +kernel) rfl ?_
        refine AI_at _ rfl ?_
        simp (disch:=first|exact dd|fail) only [go_sem,seval,rdB,cvB]
        refine AAny_free 6 [7,8] (by decide +kernel) rfl ?_
        refine AI_at _ rfl ?_
        simp (disch:=first|exact dd|fail) only [go_sem,seval,rdB,cvB]
        refine ⟨.inl trivial, .inr trivial,by omega,by omega, ?_⟩
        refine AAny_free 7 [8] (by decide +kernel) rfl ?_
        refine AI_at _ rfl ?_
        simp (disch:=first|exact dd|fail) only [go_sem,seval,rdB,cvB]
        refine AAny_free 8 [] (by decide +kernel) rfl ?_
        refine AI_at _ rfl ?_
        simp (disch:=first|exact dd|fail) only [go_sem,seval,rdB,cvB]
        refine AAny_end ?_
        simp (disch:=first|exact dd|fail) only [go_sem,seval]
        refine ⟨(acc ++ [t],sx),⟨by rw [h1,hnx,hal,Nat.sub_sub],by show (acc ++ [t]).length ≤ m7;rw [hal];omega,hg2,snoc_mem h4 hg3⟩,by show m7 - (acc ++ [t]).length < m7 - acc.length;rw [hal];omega, ?_, ?_⟩
        · simp (disch:=first|exact dd|fail) only [go_sem,seval,hal]
          try exact LeV.refl _
        · simp (disch:=first|exact dd|fail) only [go_sem,seval,rdB,cvB,hal]
          all_goals first | exact ⟨fun _ _ => trivial,fun _ _ => trivial,fun j hj => hap j (by omega)⟩ | exact ⟨LeV.refl _,fun _ _ => trivial,fun _ _ => trivial,fun j hj => hap j (by omega)⟩
      refine forall_one ?_
      refine AI_at _ rfl ?_
      simp (disch:=first|exact dd|fail) only [go_sem,seval,rdB,cvB]
      refine callG [0] hg rfl rfl (LesV.refl _) rfl ?_
      simp (disch:=first|exact dd|fail) only [go_sem,seval,rdH,rdB]
      refine AAny_free 1 [5,6,7,8] (by decide +kernel) rfl ?_
      refine AI_at _ rfl ?_
      simp (disch:=first|exact dd|fail) only [go_sem,seval,rdB,cvB]
      refine AAny_free 5 [6,7,8] (by decide +kernel) rfl ?_
      refine AI_at _ rfl ?_
      simp (disch:=first|exact dd|fail) only [go_sem,seval,rdB,cvB]
      refine AAny_free 6 [7,8] (by decide +kernel) rfl ?_
      refine AI_at _ rfl ?_
      simp (disch:=first|exact dd|fail) only [go_sem,seval,rdB,cvB]
      refine ⟨.inl trivial, .inr trivial,by omega,by omega, ?_⟩
      refine AAny_free 7 [8] (by decide +kernel) rfl ?_
      refine AI_at _ rfl ?_
      simp (disch:=first|exact dd|fail) only [go_sem,seval,rdB,cvB]
      refine AAny_free 8 [] (by decide +kernel) rfl ?_
      refine AI_at _ rfl ?_
      simp (disch:=first|exact dd|fail) only [go_sem,seval,rdB,cvB]
      refine AAny_end ?_
      simp (disch:=first|exact dd|fail) only [go_sem,seval]
      refine ⟨(acc ++ [t],sx),⟨by rw [h1,hnx,hal,Nat.sub_sub],by show (acc ++ [t]).length ≤ m7;rw [hal];omega,hg2,snoc_mem h4 hg3⟩,by show m7 - (acc ++ [t]).length < m7 - acc.length;rw [hal];omega, ?_, ?_⟩
      · simp (disch:=first|exact dd|fail) only [go_sem,seval,hal]
        try exact LeV.refl _
      · simp (disch:=first|exact dd|fail) only [go_sem,seval,rdB,cvB,hal]
        all_goals first | exact ⟨fun _ _ => trivial,fun _ _ => trivial,fun j hj => hap j (by omega)⟩ | exact ⟨LeV.refl _,fun _ _ => trivial,fun _ _ => trivial,fun j hj => hap j (by omega)⟩
    refine forall_one ?_
    refine AI_at _ rfl ?_
    simp (disch:=first|exact dd|fail) only [go_sem,seval,rdB,cvB]
    refine callG [0] hg rfl rfl (LesV.refl _) rfl ?_
    simp (disch:=first|exact dd|fail) only [go_sem,seval,rdH,rdB]
    refine AAny_free 0 [1,5,6,7,8] (by decide +kernel) rfl ?_
    refine AI_at _ rfl ?_
    simp (disch:=first|exact dd|fail) only [go_sem,seval,rdB,cvB]
    refine AAny_free 1 [5,6,7,8] (by decide +kernel) rfl ?_
    refine AI_at _ rfl ?_
    simp (disch:=first|exact dd|fail) only [go_sem,seval,rdB,cvB]
    refine AAny_free 5 [6,7,8] (by decide +kernel) rfl ?_
    refine AI_at _ rfl ?_
    simp (disch:=first|exact dd|fail) only [go_sem,seval,rdB,cvB]
    refine AAny_free 6 [7,8] (by decide +kernel) rfl ?_
    refine AI_at _ rfl ?_
    simp (disch:=first|exact dd|fail) only [go_sem,seval,rdB,cvB]
    refine ⟨.inl trivial, .inr trivial,by omega,by omega, ?_⟩
    refine AAny_free 7 [8] (by decide +kernel) rfl ?_
    refine AI_at _ rfl ?_
    simp (disch:=first|exact dd|fail) only [go_sem,seval,rdB,cvB]
    refine AAny_free 8 [] (by decide +kernel) rfl ?_
    refine AI_at _ rfl ?_
    simp (disch:=first|exact dd|fail) only [go_sem,seval,rdB,cvB]
    refine AAny_end ?_
    simp (disch:=first|exact dd|fail) only [go_sem,seval]
    refine ⟨(acc ++ [t],sx),⟨by rw [h1,hnx,hal,Nat.sub_sub],by show (acc ++ [t]).length ≤ m7;rw [hal];omega,hg2,snoc_mem h4 hg3⟩,by show m7 - (acc ++ [t]).length < m7 - acc.length;rw [hal];omega, ?_, ?_⟩
    · simp (disch:=first|exact dd|fail) only [go_sem,seval,hal]
      try exact LeV.refl _
    · simp (disch:=first|exact dd|fail) only [go_sem,seval,rdB,cvB,hal]
      all_goals first | exact ⟨fun _ _ => trivial,fun _ _ => trivial,fun j hj => hap j (by omega)⟩ | exact ⟨LeV.refl _,fun _ _ => trivial,fun _ _ => trivial,fun j hj => hap j (by omega)⟩
  have hst : x9 = (acc,s):=by rw [e9,h1,hk,Nat.sub_self];rfl
  subst hst
  subst hC
  have hRr:=claim_Right hok.1
  obtain ⟨p',e'⟩:=s
  obtain ⟨o1,o2⟩:=s9
  simp only at o1 o2 hRr hok
  simp (disch:=first|exact dd|fail) only [go_sem,seval,rdB,cvB]
  by_cases he : e' = 0
  · subst he
    cases ho : opnB (⟨kk,F,B,([],[]),T,acc⟩ : Cl) with
    | true =>
      rw [frm_ok ho] at hF
      subst hF
      rw [ho] at hRr
      simp (maxSteps:=3000000) (disch:=first|exact dd|fail) only [go_sem,seval,rdB]
      refine callC hRr ?_ rfl ?_
      · simp (disch:=first|exact dd|fail) only [go_sem,seval]
        exact LesV.cons (LeV_clE _ _ _ ([],[]) _ _) LesV.nil
      simp (maxSteps:=3000000) (disch:=first|exact dd|fail) only [go_sem,seval,rdB]
      exact LeV_clE _ _ _ ([],[]) _ _
    | false =>
      rw [frm_no rfl ho] at hF
      subst hF
      rw [ho] at hRr
      simp (maxSteps:=3000000) (disch:=first|exact dd|fail) only [go_sem,seval,rdB]
      refine callC hRr ?_ rfl ?_
      · simp (disch:=first|exact dd|fail) only [go_sem,seval]
        exact LesV.cons (LeV_clE _ _ _ ([],[]) _ _) LesV.nil
      simp (maxSteps:=3000000) (disch:=first|exact dd|fail) only [go_sem,seval,rdB]
      exact LeV_clE _ _ _ ([],[]) _ _
  · rw [frm_err he] at hF
    subst hF
    simp (maxSteps:=3000000) (disch:=first|exact dd|fail) only [go_sem,seval,rdB]
    exact LeV_clE _ _ _ ([],[]) _ _
theorem psG_err {b : Txt} {l : Lm} : ∀ (k : Nat) (acc : List (List Tm)) (s : Rs),s.2 ≠ 0 → (psG b l k acc s).2 = s
  | 0,acc,s,h => rfl
  | k + 1,acc,s,h => by
    rw [psG,plF_err h]
    exact psG_err k _ s h
theorem tsG_err {b : Txt} {bits : Int} : ∀ (k : Nat) (acc : List Txt) (s : Rs),s.2 ≠ 0 → (tsG b bits k acc s).2 = s
  | 0,acc,s,h => rfl
  | k + 1,acc,s,h => by
    rw [tsG,raF_err h]
    exact tsG_err k _ s h
theorem esG_err {b : Txt} {bits : Int} {n : Nat} : ∀ (k : Nat) (acc : List (List (Txt × Txt))) (s : Rs),s.2 ≠ 0 → (esG b bits n k acc s).2 = s
  | 0,acc,s,h => rfl
  | k + 1,acc,s,h => by
    rw [esG,bxF_err h]
    exact esG_err k _ s h
def rs6 (b : Txt) (l : Lm) (k : Nat) (s : Rs) : (Txt × Txt) × Rs:=if k = 2 then prF b l.b s else (([],[]),s)
def rs7 (b : Txt) (l : Lm) (k : Nat) (s : Rs) : Nat × Rs:=cnF b 1 8 (rs6 b l k s).2
def rs8 (b : Txt) (l : Lm) (k : Nat) (s : Rs) : List Txt × Rs:=tsG b l.b (rs7 b l k s).1 [] (rs7 b l k s).2
def rs9 (b : Txt) (l : Lm) (k n : Nat) (s : Rs) : List (List (Txt × Txt)) × Rs:=esG b l.b n (rs7 b l k s).1 [] (rs8 b l k s).2
def rsC (b : Txt) (l : Lm) (k n : Nat) (F : List (List Tm)) (B : List (Txt × Txt)) (s : Rs) : Cl × Rs:=
  if k = 5 then (⟨k,F,B,(rs6 b l k s).1,(rs8 b l k s).1,(rs9 b l k n s).1⟩,(rs9 b l k n s).2) else (⟨k,F,B,(rs6 b l k s).1,[],[]⟩,(rs6 b l k s).2)
theorem clC_rs (b : Txt) (l : Lm) (s : Rs) : clC b l s = rsC b l (cF1 b s).1 (cF2 b s).1 (cF5 b l s).1 (cF3 b l s).1 (cF5 b l s).2:=rfl
def cgD (x : Cl × Rs) : D:=.tup [clD x.1, .int .i64 x.2.1, .int .i64 x.2.2]
def clZ : D:=.agg [.int .i64 0, .nils, .nils, .str [], .str [], .nils, .nils]
theorem LeV_zero (e : Int) : LeV (.tup [clZ, .int .i64 0, .int .i64 e]) (.tup [clD zeroC, .int .i64 0, .int .i64 e]):=LeV.tup (LesV.cons (LeV.agg (LesV.cons (LeV.refl _) (LesV.cons LeV.nils (LesV.cons LeV.nils (LesV.cons (LeV.refl _) (LesV.cons (LeV.refl _) (LesV.cons LeV.nils (LesV.cons LeV.nils LesV.nil)))))))) (LesV.refl _))
def rcV (b : Txt) (l : Lm) (a : Int) : Cl × Rs:=if a < 0 ∨ (b.length : Int) < a then (zeroC,(0,1)) else fnV zeroC (clF b l (a.toNat,0))
theorem rsC_err {b : Txt} {l : Lm} {k n : Nat} {F : List (List Tm)} {B : List (Txt × Txt)} {s : Rs} (h : s.2 ≠ 0) : (rsC b l k n F B s).2 = s:=by
  have h6 : (rs6 b l k s).2 = s:=by
    unfold rs6
    split
    · rw [prF_err h]
    · rfl
  have h7 : (rs7 b l k s).2 = s:=by unfold rs7;rw [h6,cnF_err h]
  have h8 : (rs8 b l k s).2 = s:=by unfold rs8;rw [h7,tsG_err _ _ _ h]
  have h9 : (rs9 b l k n s).2 = s:=by unfold rs9;rw [h8,esG_err _ _ _ h]
  unfold rsC
  split
  · exact h9
  · exact h6
theorem fin_err {b : Txt} {l : Lm} {k n : Nat} {F : List (List Tm)} {B : List (Txt × Txt)} {s : Rs} (h : s.2 ≠ 0) : frm opnB (rsC b l k n F B s) = rsC b l k n F B s ∧ fnV zeroC (frm opnB (rsC b l k n F B s)) = (zeroC,(0,s.2)):=by
  have h1 : frm opnB (rsC b l k n F B s) = rsC b l k n F B s:=frm_err (by rw [rsC_err h];exact h)
  refine ⟨h1, ?_⟩
  rw [h1,fnV_err (by rw [rsC_err h];exact h),rsC_err h]
theorem c5_err {b : Txt} {l : Lm} {s : Rs} (h : (cF4 b l s).2.2 ≠ 0) : (cF5 b l s).2 = (cF4 b l s).2:=by unfold cF5;exact psG_err _ _ _ h
theorem c4_err {b : Txt} {l : Lm} {s : Rs} (h : (cF3 b l s).2.2 ≠ 0) : (cF4 b l s).2 = (cF3 b l s).2:=by unfold cF4;rw [cnF_err h]
theorem c3_err {b : Txt} {l : Lm} {s : Rs} (h : (cF2 b s).2.2 ≠ 0) : (cF3 b l s).2 = (cF2 b s).2:=by unfold cF3;rw [bxF_err h]
theorem c2_err {b : Txt} {s : Rs} (h : (cF1 b s).2.2 ≠ 0) : (cF2 b s).2 = (cF1 b s).2:=by unfold cF2;rw [cnF_err h]
theorem clF_err {b : Txt} {l : Lm} {s : Rs} (h : s.2 ≠ 0) : (clF b l s).2 = s:=by
  have h1 : (cF1 b s).2 = s:=by unfold cF1;rw [cnF_err h]
  have h2 : (cF2 b s).2 = s:=by rw [c2_err (by rw [h1];exact h),h1]
  have h3 : (cF3 b l s).2 = s:=by rw [c3_err (by rw [h2];exact h),h2]
  have h4 : (cF4 b l s).2 = s:=by rw [c4_err (by rw [h3];exact h),h3]
  have h5 : (cF5 b l s).2 = s:=by rw [c5_err (by rw [h4];exact h),h4]
  unfold clF
  rw [clC_rs,h5,(fin_err h).1,rsC_err h]
theorem claim_Read {b : Txt} {l : Lm} {a : Int} (hb : b.length < 100000) (hl : l.ok) (ha : I6 a) : C E 36 [.str b, .int .i64 a,lmD l] (cgD (rcV b l a)):=by
  refine CG_intro Tryz.func36 rfl (by kernel_rfl) rfl (by kernel_rfl) (by kernel_rfl) rfl ?_
  unfold cgD
  unfold I6 at ha
  by_cases hA : a < 0 ∨ (b.length : Int) < a
  · have hf:=claim_from0 (l:=l) (b:=b) (by omega) hA
    have hv : rcV b l a = (zeroC,(0,1)):=by unfold rcV;rw [if_pos hA]
    have hx:=in_claim (b:=[]) (l:=lm0) (s:=(0,1)) ⟨Nat.zero_le _,by show 1 < 18;omega⟩ (by simp) ⟨⟨by decide,by decide⟩,⟨by decide,by decide⟩⟩
    rw [clF_err (by simp)] at hx
    rw [hv]
    simp (disch:=first|exact dd|fail) only [go_sem,seval,lmD]
    refine callG [] hf rfl rfl (LesV.refl _) rfl ?_
    simp (disch:=first|exact dd|fail) only [go_sem,seval,rdB,lm0]
    refine callG [3] hx rfl rfl (LesV.refl _) rfl ?_
    simp (disch:=first|exact dd|fail) only [go_sem,seval,rdH,rdB,lm0]
    refine AReg_anyL 8 [0,1,2,3,4,5,6,7] rfl rfl (by decide +kernel) ?_
    refine AAny_free 0 [1,2,3,4,5,6,7] (by decide +kernel) rfl ?_
    refine AI_at _ rfl ?_
    simp (disch:=first|exact dd|fail) only [go_sem,seval]
    refine AAny_free 1 [2,3,4,5,6,7] (by decide +kernel) rfl ?_
    refine AI_at _ rfl ?_
    simp (disch:=first|exact dd|fail) only [go_sem,seval]
    refine AAny_free 2 [3,4,5,6,7] (by decide +kernel) rfl ?_
    refine AI_at _ rfl ?_
    simp (disch:=first|exact dd|fail) only [go_sem,seval]
    refine AAny_free 3 [4,5,6,7] (by decide +kernel) rfl ?_
    refine AI_at _ rfl ?_
    simp (disch:=first|exact dd|fail) only [go_sem,seval]
    refine AAny_step [(4,[5,6,7]),(5,[4,6,7])] (by decide +kernel) rfl ?_
    refine forall_more ?_ ?_
    · refine AI_at _ rfl ?_
      simp (disch:=first|exact dd|fail) only [go_sem,seval]
      refine AAny_free 5 [6,7] (by decide +kernel) rfl ?_
      refine AI_at _ rfl ?_
      simp (disch:=first|exact dd|fail) only [go_sem,seval]
      refine AAny_free 6 [7] (by decide +kernel) rfl ?_
      refine AI_at _ rfl ?_
      simp (disch:=first|exact dd|fail) only [go_sem,seval]
      refine AAny_free 7 [] (by decide +kernel) rfl ?_
      refine AI_at _ rfl ?_
      simp (disch:=first|exact dd|fail) only [go_sem,seval]
      refine AAny_end ?_
      simp (disch:=first|exact dd|fail) only [go_sem,seval]
      exact LeV_zero _
    refine forall_one ?_
    refine AI_at _ rfl ?_
    simp (disch:=first|exact dd|fail) only [go_sem,seval]
    refine AAny_free 4 [6,7] (by decide +kernel) rfl ?_
    refine AI_at _ rfl ?_
    simp (disch:=first|exact dd|fail) only [go_sem,seval]
    refine AAny_free 6 [7] (by decide +kernel) rfl ?_
    refine AI_at _ rfl ?_
    simp (disch:=first|exact dd|fail) only [go_sem,seval]
    refine AAny_free 7 [] (by decide +kernel) rfl ?_
    refine AI_at _ rfl ?_
    simp (disch:=first|exact dd|fail) only [go_sem,seval]
    refine AAny_end ?_
    simp (disch:=first|exact dd|fail) only [go_sem,seval]
    exact LeV_zero _
  have hf:=claim_from (l:=l) (b:=b) (a:=a) (by omega) (by omega) (by omega)
  have hs0 : RsOk b (a.toNat,0):=⟨by show a.toNat ≤ _;omega,by show 0 < 18;omega⟩
  have hv : rcV b l a = fnV zeroC (clF b l (a.toNat,0)):=by unfold rcV;rw [if_neg hA]
  rw [hv]
  have hx:=in_claim (l:=l) hs0 hb hl
  have hr:=(clF_ok (l:=l) hb hs0).2
  generalize clF b l (a.toNat,0) = x at *
  obtain ⟨r,p,e⟩:=x
  obtain ⟨r1,r2⟩:=hr
  simp only at r1 r2
  simp (disch:=first|exact dd|fail) only [go_sem,seval,lmD]
  refine callG [] hf rfl rfl (LesV.refl _) rfl ?_
  simp (disch:=first|exact dd|fail) only [go_sem,seval,rdB]
  refine callG [3] hx rfl rfl (LesV.refl _) rfl ?_
  by_cases he : e = 0
  · subst he
    rw [fnV_ok rfl]
    simp (disch:=first|exact dd|fail) only [go_sem,seval,rdH,rdB]
    refine AReg_anyL 8 [0,1,2,3,4,5,6,7] rfl rfl (by decide +kernel) ?_
    refine AAny_free 0 [1,2,3,4,5,6,7] (by decide +kernel) rfl ?_
    refine AI_at _ rfl ?_
    simp (disch:=first|exact dd|fail) only [go_sem,seval]
    refine AAny_free 1 [2,3,4,5,6,7] (by decide +kernel) rfl ?_
    refine AI_at _ rfl ?_
    simp (disch:=first|exact dd|fail) only [go_sem,seval]
    refine AAny_free 2 [3,4,5,6,7] (by decide +kernel) rfl ?_
    refine AI_at _ rfl ?_
    simp (disch:=first|exact dd|fail) only [go_sem,seval]
    refine AAny_free 3 [4,5,6,7] (by decide +kernel) rfl ?_
    refine AI_at _ rfl ?_
    simp (disch:=first|exact dd|fail) only [go_sem,seval]
    refine AAny_step [(4,[5,6,7]),(5,[4,6,7])] (by decide +kernel) rfl ?_
    refine forall_more ?_ ?_
    · refine AI_at _ rfl ?_
      simp (disch:=first|exact dd|fail) only [go_sem,seval]
      refine AAny_free 5 [6,7] (by decide +kernel) rfl ?_
      refine AI_at _ rfl ?_
      simp (disch:=first|exact dd|fail) only [go_sem,seval]
      refine AAny_free 6 [7] (by decide +kernel) rfl ?_
      refine AI_at _ rfl ?_
      simp (disch:=first|exact dd|fail) only [go_sem,seval]
      refine AAny_free 7 [] (by decide +kernel) rfl ?_
      refine AI_at _ rfl ?_
      simp (disch:=first|exact dd|fail) only [go_sem,seval]
      refine AAny_end ?_
      simp (disch:=first|exact dd|fail) only [go_sem,seval]
      try exact LeV.refl _
    refine forall_one ?_
    refine AI_at _ rfl ?_
    simp (disch:=first|exact dd|fail) only [go_sem,seval]
    refine AAny_free 4 [6,7] (by decide +kernel) rfl ?_
    refine AI_at _ rfl ?_
    simp (disch:=first|exact dd|fail) only [go_sem,seval]
    refine AAny_free 6 [7] (by decide +kernel) rfl ?_
    refine AI_at _ rfl ?_
    simp (disch:=first|exact dd|fail) only [go_sem,seval]
    refine AAny_free 7 [] (by decide +kernel) rfl ?_
    refine AI_at _ rfl ?_
    simp (disch:=first|exact dd|fail) only [go_sem,seval]
    refine AAny_end ?_
    simp (disch:=first|exact dd|fail) only [go_sem,seval]
    try exact LeV.refl _
  · rw [fnV_err he]
    simp (disch:=first|exact dd|fail) only [go_sem,seval,rdH,rdB]
    refine AReg_anyL 8 [0,1,2,3,4,5,6,7] rfl rfl (by decide +kernel) ?_
    refine AAny_free 0 [1,2,3,4,5,6,7] (by decide +kernel) rfl ?_
    refine AI_at _ rfl ?_
    simp (disch:=first|exact dd|fail) only [go_sem,seval]
    refine AAny_free 1 [2,3,4,5,6,7] (by decide +kernel) rfl ?_
    refine AI_at _ rfl ?_
    simp (disch:=first|exact dd|fail) only [go_sem,seval]
    refine AAny_free 2 [3,4,5,6,7] (by decide +kernel) rfl ?_
    refine AI_at _ rfl ?_
    simp (disch:=first|exact dd|fail) only [go_sem,seval]
    refine AAny_free 3 [4,5,6,7] (by decide +kernel) rfl ?_
    refine AI_at _ rfl ?_
    simp (disch:=first|exact dd|fail) only [go_sem,seval]
    refine AAny_step [(4,[5,6,7]),(5,[4,6,7])] (by decide +kernel) rfl ?_
    refine forall_more ?_ ?_
    · refine AI_at _ rfl ?_
      simp (disch:=first|exact dd|fail) only [go_sem,seval]
      refine AAny_free 5 [6,7] (by decide +kernel) rfl ?_
      refine AI_at _ rfl ?_
      simp (disch:=first|exact dd|fail) only [go_sem,seval]
      refine AAny_free 6 [7] (by decide +kernel) rfl ?_
      refine AI_at _ rfl ?_
      simp (disch:=first|exact dd|fail) only [go_sem,seval]
      refine AAny_free 7 [] (by decide +kernel) rfl ?_
      refine AI_at _ rfl ?_
      simp (disch:=first|exact dd|fail) only [go_sem,seval]
      refine AAny_end ?_
      simp (disch:=first|exact dd|fail) only [go_sem,seval]
      exact LeV_zero _
    refine forall_one ?_
    refine AI_at _ rfl ?_
    simp (disch:=first|exact dd|fail) only [go_sem,seval]
    refine AAny_free 4 [6,7] (by decide +kernel) rfl ?_
    refine AI_at _ rfl ?_
    simp (disch:=first|exact dd|fail) only [go_sem,seval]
    refine AAny_free 6 [7] (by decide +kernel) rfl ?_
    refine AI_at _ rfl ?_
    simp (disch:=first|exact dd|fail) only [go_sem,seval]
    refine AAny_free 7 [] (by decide +kernel) rfl ?_
    refine AI_at _ rfl ?_
    simp (disch:=first|exact dd|fail) only [go_sem,seval]
    refine AAny_end ?_
    simp (disch:=first|exact dd|fail) only [go_sem,seval]
    exact LeV_zero _
end Go.Proofs.YtakaojkfipnfcaaGreatDoor.Lv
