/- A claim's numbers: polynomials. -/
import Derived.Test.YtakaojkfipnfcaaGreatDoorG22
import Derived.Test.YtakaojkfipnfcaaGreatDoorG23
set_option linter.unusedVariables false
set_option linter.unusedSimpArgs false
set_option maxRecDepth 100000
set_option maxHeartbeats 4000000
namespace Go.Proofs.YtakaojkfipnfcaaGreatDoor.Lv
open Go Go.RowKit
structure Cl where
  k : Int
  F : List (List Tm)
  B : List (Txt × Txt)
  R : Txt × Txt
  T : List Txt
  E : List (List (Txt × Txt))
def fsR (l : List (List Tm)) : Nat → D:=fun i => tmD (l.getD i [])
def fsD (l : List (List Tm)) : D:=.ro false 1 l.length (fsR l)
def esR (l : List (List (Txt × Txt))) : Nat → D:=fun i => txD (l.getD i [])
def esD (l : List (List (Txt × Txt))) : D:=.ro false 1 l.length (esR l)
def clD (c : Cl) : D:=.agg [.int .i64 c.k,fsD c.F,txD c.B, .str c.R.1, .str c.R.2,tlD c.T,esD c.E]
def pfR (l : List (List Pt)) : Nat → D:=fun i => pD (l.getD i [])
def pfD (l : List (List Pt)) : D:=.ro true 1 l.length (pfR l)
def bfR (l : List (List (Rat × Rat))) : Nat → D:=fun i => bxD (l.getD i [])
def bfD (l : List (List (Rat × Rat))) : D:=.ro false 1 l.length (bfR l)
section
variable (a : List (List Tm)) (b : List (List (Txt × Txt))) (p : List (List Pt)) (q : List (List (Rat × Rat))) (u : List Pt) (h : Hp) (ρ : Nat → Option Nat)
variable (x : List (Txt × Txt)) (y : List Txt)
theorem imp_txD : imp ρ h (txD x) = txD x:=Eq.trans rfl rfl
theorem refs_txD : refs ρ (txD x) = []:=Eq.trans rfl rfl
theorem one_txD : one h (txD x) = true:=Eq.trans rfl rfl
theorem imp_tlD : imp ρ h (tlD y) = tlD y:=Eq.trans rfl rfl
theorem refs_tlD : refs ρ (tlD y) = []:=Eq.trans rfl rfl
theorem one_tlD : one h (tlD y) = true:=Eq.trans rfl rfl
variable (r : Nat → Nat) (bb : List (Rat × Rat)) (tt : List Tm) (pp : List Pt)
theorem ex_pf : exD r (pfD p) = pfD p:=Eq.trans rfl rfl
theorem ex_txD : exD r (txD x) = txD x:=Eq.trans rfl rfl
theorem ex_bxD : exD r (bxD bb) = bxD bb:=Eq.trans rfl rfl
theorem ex_tmD : exD r (tmD tt) = tmD tt:=Eq.trans rfl rfl
theorem imp_fs : imp ρ h (fsD a) = fsD a:=Eq.trans rfl rfl
theorem refs_fs : refs ρ (fsD a) = []:=Eq.trans rfl rfl
theorem one_fs : one h (fsD a) = true:=Eq.trans rfl rfl
theorem imp_es : imp ρ h (esD b) = esD b:=Eq.trans rfl rfl
theorem refs_es : refs ρ (esD b) = []:=Eq.trans rfl rfl
theorem one_es : one h (esD b) = true:=Eq.trans rfl rfl
theorem flat_pf : flat (pfD p) = false:=Eq.trans rfl rfl
theorem imp_pf : imp ρ h (pfD p) = pfD p:=Eq.trans rfl rfl
theorem one_pf : one h (pfD p) = true:=Eq.trans rfl rfl
theorem flat_bf : flat (bfD q) = false:=Eq.trans rfl rfl
theorem imp_bf : imp ρ h (bfD q) = bfD q:=Eq.trans rfl rfl
theorem one_bf : one h (bfD q) = true:=Eq.trans rfl rfl
theorem cl_pD : cl (pD u) = true:=Eq.trans rfl rfl
theorem flat_pD : flat (pD u) = false:=Eq.trans rfl rfl
theorem imp_pD : imp ρ h (pD u) = pD u:=Eq.trans rfl rfl
theorem asAgg_pD : asAgg (pD u) = some [ptsD u]:=Eq.trans rfl rfl
end
attribute [go_sem] ex_pf ex_txD ex_bxD ex_tmD imp_txD refs_txD one_txD imp_tlD refs_tlD one_tlD imp_fs refs_fs one_fs imp_es refs_es one_es flat_pf imp_pf one_pf flat_bf imp_bf one_bf cl_pD flat_pD imp_pD asAgg_pD
def okF (n : Nat) (t : List Tm) : Bool:=plOk t && decide (pVars (pV t) ≤ n)
def okFs (n : Nat) (l : List (List Tm)) : Bool:=l.all (okF n)
def manyB (k : Int) (n m : Nat) : Bool:=if k = 1 ∨ k = 2 then decide (m = 1) else if k = 3 then decide (1 ≤ m ∧ m ≤ 3) else decide (m = n)
theorem all_of {α : Type} {l : List α} {f : α → Bool} {d : α} (h : ∀ i,i < l.length → f (l.getD i d) = true) : l.all f = true:=by
  rw [List.all_eq_true]
  intro x hx
  obtain ⟨i,hi,rfl⟩:=List.mem_iff_getElem.1 hx
  have:=h i hi
  rw [List.getD_eq_getElem?_getD,List.getElem?_eq_getElem hi] at this
  exact this
theorem all_no {α : Type} {l : List α} {f : α → Bool} {d : α} {i : Nat} (hi : i < l.length) (h : f (l.getD i d) = false) : l.all f = false:=by
  rw [List.all_eq_false]
  exact ⟨_,getD_mem' l i d hi,by rw [h];simp⟩
theorem map_at {α β : Type} {l : List α} {f : α → β} {i : Nat} {d : α} {e : β} (hi : i < l.length) : (l.map f).getD i e = f (l.getD i d):=by
  rw [List.getD_eq_getElem?_getD,List.getElem?_map,List.getD_eq_getElem?_getD,List.getElem?_eq_getElem hi]
  rfl
theorem claim_many {k : Int} {n m : Nat} (hn : n < 1000000000) (hm : m < 1073741824) : C E 90 [.int .i64 k, .int .i64 n, .int .i64 m] (.bool (manyB k n m)):=by
  refine CG_intro Tryz.func90 rfl (by kernel_rfl) rfl (by kernel_rfl) (by kernel_rfl) rfl ?_
  unfold manyB
  by_cases k1 : k = 1
  · rw [if_pos (.inl k1)]
    by_cases h : m = 1
    · rw [decide_eq_true h];simp (disch:=first|exact dd|fail) only [go_sem,seval]
    · rw [decide_eq_false h];simp (disch:=first|exact dd|fail) only [go_sem,seval]
  by_cases k2 : k = 2
  · rw [if_pos (.inr k2)]
    by_cases h : m = 1
    · rw [decide_eq_true h];simp (disch:=first|exact dd|fail) only [go_sem,seval]
    · rw [decide_eq_false h];simp (disch:=first|exact dd|fail) only [go_sem,seval]
  rw [if_neg (by omega)]
  by_cases k3 : k = 3
  · rw [if_pos k3]
    by_cases h : 1 ≤ m
    · by_cases h2 : m ≤ 3
      · rw [decide_eq_true ⟨h,h2⟩];simp (disch:=first|exact dd|fail) only [go_sem,seval]
      · rw [decide_eq_false (by omega)];simp (disch:=first|exact dd|fail) only [go_sem,seval]
    · rw [decide_eq_false (by omega)];simp (disch:=first|exact dd|fail) only [go_sem,seval]
  · rw [if_neg k3]
    by_cases h : m = n
    · rw [decide_eq_true h];simp (disch:=first|exact dd|fail) only [go_sem,seval]
    · rw [decide_eq_false h];simp (disch:=first|exact dd|fail) only [go_sem,seval]
def fkB (k : Int) (F : D) (b : List (Rat × Rat)) (T E : D) : Blk:=.var true 11 (.agg [.int .i64 k,F,bxD b, .nils, .bool false, .nils, .nils, .bool false, .nils,T,E])
theorem LeV_fk {a b : D} {l : List D} : LeV (.agg (a :: b :: l)) (.agg (a :: .unk :: l)):=LeV.agg (LesV.cons (LeV.refl _) (LesV.cons (LeV.unk _) (LesV.refl _)))
theorem polys_core {k : Int} {b : List (Rat × Rat)} {l : List (List Tm)} (hb : b.length ≤ 3) (hl : l.length < 1000000) (ht : ∀ t ∈ l,t.length ≤ 100000 ∧ ∀ p ∈ t,shT p.2) {fin : Hp} {r : Bool}
    (hfin : (okFs b.length l = true ∧ r = manyB k b.length l.length ∧ fin = [(0,fkB k (.sl 1 l.length 0 l.length) b .nils .nils),(1, .row false l.length true 1 l.length (pfR (l.map pV)))]) ∨ (okFs b.length l = false ∧ r = false ∧ fin = [(0,fkB k .unk b .nils .nils)])) :
    CG E 47 [.ad 0 0,fsD l] [(0,fkB k .nils b .nils .nils)] (.bool r) fin:=by
  refine CG_intro Tryz.func47 rfl (by kernel_rfl) rfl (by kernel_rfl) (by kernel_rfl) (by rcases hfin with ⟨_,_,rfl⟩ | ⟨_,_,rfl⟩ <;> rfl) ?_
  have hM:=claim_many (k:=k) (n:=b.length) (m:=l.length) (by omega) (by omega)
  have hml : (l.map pV).length = l.length:=List.length_map _
  simp (disch:=first|exact dd|fail) only [go_sem,seval,fkB,fsD]
  refine AL.ofW (fun i : Nat => i ≤ l.length ∧ ∀ j,j < i → okF b.length (l.getD j []) = true) (fun i => l.length - i) (fun i => [(0, .ad 0 0),(1,fsD l),(9,fsD l),(10, .int .i64 l.length),(11, .int .i64 i)])
    (fun i => [(0,fkB k (.sl 1 i 0 i) b .nils .nils),(1, .row false i true 1 i (pfR (l.map pV)))]) 0 (Wk.nilV 0 1 true 1 (fun _ => .unk) rfl rfl (Nat.le_refl _)) (Nat.le_succ _) ⟨Nat.zero_le _,fun j hj => absurd hj (by omega)⟩ ?_ ?_ ?_ ?_
  · simp (disch:=first|exact dd|fail) only [go_sem,seval,fsD]
    try exact LeV.refl _
  · simp (disch:=first|exact dd|fail) only [go_sem,seval,fkB]
    try exact ⟨LeV.refl _,fun j hj => absurd hj (by omega)⟩
  · intro x _;simp (disch:=first|exact dd|fail) only [go_sem,seval,fkB]
  rintro i ⟨hi,hok⟩
  by_cases hil : i = l.length
  · subst hil
    have hall : okFs b.length l = true:=all_of hok
    rcases hfin with ⟨_,rfl,rfl⟩ | ⟨hno,_,_⟩
    case inr => rw [hall] at hno;cases hno
    simp (disch:=first|exact dd|fail) only [go_sem,seval,fkB,fsD,bxD]
    refine cL hM ?_
    simp (disch:=first|exact dd|fail) only [go_sem,seval,fkB]
    exact fun _ _ => trivial
  have htt:=ht _ (getD_mem' l i [] (by omega))
  have hp1 : fsR l i = tmD (l.getD i []):=rfl
  have hmp:=map_at (l:=l) (f:=pV) (i:=i) (d:=[]) (e:=[]) (by omega)
  have hP:=poly_Parse (l:=l.getD i []) (by omega) htt.2
  have hL:=claim_low (l:=l.getD i []) (by omega)
  have hV:=poly_Vars (l:=pV (l.getD i [])) (by rw [pV_len];omega)
  have hle:=pVars_le (pV (l.getD i []))
  have hno : okF b.length (l.getD i []) = false → r = false ∧ fin = [(0,fkB k .unk b .nils .nils)]:=fun h => by
    have:=all_no (l:=l) (d:=[]) (i:=i) (by omega) h
    rcases hfin with ⟨h1,_,_⟩ | ⟨_,h2,h3⟩
    · unfold okFs at h1;rw [this] at h1;cases h1
    · exact ⟨h2,h3⟩
  clear hfin hM
  unfold ppD at hP
  unfold okF plOk at hno
  have hyes : okF b.length (l.getD i []) = true → i + 1 ≤ l.length ∧ ∀ j,j < i + 1 → okF b.length (l.getD j []) = true:=fun h => ⟨by omega,fun j hj => by
    rcases Nat.lt_or_ge j i with h2 | h2
    · exact hok j h2
    · rw [show j = i by omega];exact h⟩
  unfold okF plOk at hyes
  have hpf : pfR (l.map pV) i = pD (pV (l.getD i [])):=by unfold pfR;rw [hmp]
  generalize l.getD i [] = t at *
  cases h1 : okPl t with
  | false =>
    obtain ⟨rfl,rfl⟩:=hno (by rw [h1];rfl)
    rw [h1] at hP
    simp only [Bool.false_eq_true,if_false] at hP
    simp (disch:=first|exact dd|fail) only [go_sem,seval,fkB,fsD,hp1]
    refine cA hP ?_
    simp (disch:=first|exact dd|fail) only [go_sem,seval]
    exact LeV_fk
  | true =>
    rw [h1] at hP
    simp only [if_true] at hP
    simp (disch:=first|exact dd|fail) only [go_sem,seval,fkB,fsD,hp1]
    refine cA hP ?_
    simp (disch:=first|exact dd|fail) only [go_sem,seval,bxD]
    refine cL hL ?_
    cases h2 : lowB t with
    | false =>
      obtain ⟨rfl,rfl⟩:=hno (by rw [h1,h2];rfl)
      simp (disch:=first|exact dd|fail) only [go_sem,seval,bxD,fkB]
      exact LeV_fk
    | true =>
      simp (disch:=first|exact dd|fail) only [go_sem,seval,bxD]
      refine cL hV ?_
      by_cases h3 : pVars (pV t) ≤ b.length
      case neg =>
        obtain ⟨rfl,rfl⟩:=hno (by rw [h1,h2];simp [h3])
        simp (disch:=first|exact dd|fail) only [go_sem,seval,bxD,fkB]
        exact LeV_fk
      have hyes:=hyes (by rw [h1,h2];simp [h3])
      simp (disch:=first|exact dd|fail) only [go_sem,seval,bxD]
      refine ⟨.inl trivial, .inr trivial,by omega,by omega,i + 1,hyes,by show l.length - (i + 1) < l.length - i;omega, ?_, ?_⟩
      · simp (disch:=first|exact dd|fail) only [go_sem,seval,fsD]
        try exact LeV.refl _
      · simp (disch:=first|exact dd|fail) only [go_sem,seval,fkB]
        intro j hj
        by_cases h : j < i
        · rw [if_pos h];exact Le.refl _
        · obtain rfl : j = i:=by omega
          rw [if_neg h,Nat.sub_self,hpf];exact Le.refl _
theorem facts_polys {k : Int} {b : List (Rat × Rat)} {l : List (List Tm)} (hb : b.length ≤ 3) (hl : l.length < 1000000) (ht : ∀ t ∈ l,t.length ≤ 100000 ∧ ∀ p ∈ t,shT p.2) (h : okFs b.length l = true) :
    CG E 47 [.ad 0 0,fsD l] [(0,fkB k .nils b .nils .nils)] (.bool (manyB k b.length l.length)) [(0,fkB k (.sl 1 l.length 0 l.length) b .nils .nils),(1, .row false l.length true 1 l.length (pfR (l.map pV)))]:=
  polys_core hb hl ht (.inl ⟨h,rfl,rfl⟩)
theorem facts_polys_no {k : Int} {b : List (Rat × Rat)} {l : List (List Tm)} (hb : b.length ≤ 3) (hl : l.length < 1000000) (ht : ∀ t ∈ l,t.length ≤ 100000 ∧ ∀ p ∈ t,shT p.2) (h : okFs b.length l = false) :
    CG E 47 [.ad 0 0,fsD l] [(0,fkB k .nils b .nils .nils)] (.bool false) [(0,fkB k .unk b .nils .nils)]:=
  polys_core hb hl ht (.inr ⟨h,rfl,rfl⟩)
def okTi (n : Nat) (t : Txt) (e : List (Txt × Txt)) : Bool:=(match dpO t with | some q => decide (0 < q.num) | none => false) && decide ((boxR e).2 = 0) && decide ((boxR e).1.length = n)
def okTs (n : Nat) (T : List Txt) (E : List (List (Txt × Txt))) : Bool:=(List.range T.length).all fun i => okTi n (T.getD i []) (E.getD i [])
def tV (T : List Txt) : List Rat:=T.map fun t => (rpO t).getD 0
def eV (E : List (List (Txt × Txt))) : List (List (Rat × Rat)):=E.map fun e => (boxR e).1
def fkX (k : Int) (X : List (List Pt)) (b : List (Rat × Rat)) (T E : D) : Blk:=.var true 11 (.agg [.int .i64 k,pfD X,bxD b, .nils, .bool false, .nils, .nils, .bool false, .nils,T,E])
theorem range_of {n : Nat} {f : Nat → Bool} (h : ∀ i,i < n → f i = true) : (List.range n).all f = true:=by
  rw [List.all_eq_true]
  exact fun i hi => h i (List.mem_range.1 hi)
theorem range_no {n i : Nat} {f : Nat → Bool} (hi : i < n) (h : f i = false) : (List.range n).all f = false:=by
  rw [List.all_eq_false]
  exact ⟨i,List.mem_range.2 hi,by rw [h];simp⟩
theorem dpO_rp {s : Txt} {q : Rat} (h : dpO s = some q) : rpO s = some q ∧ dyq q:=by
  unfold dpO at h
  cases hr : rpO s with
  | none => rw [hr] at h;cases h
  | some r =>
    rw [hr] at h
    simp only at h
    split at h
    · cases h;exact ⟨rfl,by assumption⟩
    · cases h
def okTE (n : Nat) (c : Cl) : Bool:=decide (1 ≤ c.T.length) && decide (c.T.length ≤ 8) && decide (c.E.length = c.T.length) && decide (n ≤ 2) && okTs n c.T c.E
theorem LeV_fkt {a0 a1 a2 a3 a4 a5 a6 a7 a8 x y : D} : LeV (.agg [a0,a1,a2,a3,a4,a5,a6,a7,a8,x,y]) (.agg [a0,a1,a2,a3,a4,a5,a6,a7,a8, .unk, .unk]):=
  LeV.agg (LesV.cons (LeV.refl _) (LesV.cons (LeV.refl _) (LesV.cons (LeV.refl _) (LesV.cons (LeV.refl _) (LesV.cons (LeV.refl _) (LesV.cons (LeV.refl _) (LesV.cons (LeV.refl _) (LesV.cons (LeV.refl _) (LesV.cons (LeV.refl _) (LesV.cons (LeV.unk _) (LesV.cons (LeV.unk _) LesV.nil)))))))))))
theorem box_len (l : List (Txt × Txt)) : (boxR l).1.length ≤ 3:=by
  unfold boxR
  split
  · exact Nat.zero_le _
  · rename_i h
    unfold sidesR
    split
    · exact Nat.zero_le _
    · rw [List.length_map];omega
theorem times_core {k : Int} {X : List (List Pt)} {b : List (Rat × Rat)} {c : Cl} (hb : b.length ≤ 3) (hT : c.T.length < 1000000) (hE : c.E.length < 1000000) (ht : ∀ t ∈ c.T,shT t) (he : ∀ e ∈ c.E,e.length < 1000000 ∧ ∀ p ∈ e,shT p.1 ∧ shT p.2) {fin : Hp} {r : Bool}
    (hfin : (okTE b.length c = true ∧ r = true ∧ fin = [(0,fkX k X b (.sl 2 c.T.length 0 c.T.length) (.sl 3 c.T.length 0 c.T.length)),(2, .row false c.T.length true 3 c.T.length (qR (tV c.T))),(3, .row false c.T.length false 1 c.T.length (bfR (eV c.E)))]) ∨ (okTE b.length c = false ∧ r = false ∧ fin = [(0,fkX k X b .unk .unk)])) :
    CG E 49 [.ad 0 0,clD c] [(0,fkX k X b .nils .nils)] (.bool r) fin:=by
  refine CG_intro Tryz.func49 rfl (by kernel_rfl) rfl (by kernel_rfl) (by kernel_rfl) (by rcases hfin with ⟨_,_,rfl⟩ | ⟨_,_,rfl⟩ <;> rfl) ?_
  have no : okTE b.length c = false → r = false ∧ fin = [(0,fkX k X b .unk .unk)]:=fun h => by
    rcases hfin with ⟨h1,_,_⟩ | ⟨_,h2,h3⟩
    · rw [h] at h1;cases h1
    · exact ⟨h2,h3⟩
  by_cases c1 : 1 ≤ c.T.length
  case neg =>
    obtain ⟨rfl,rfl⟩:=no (by unfold okTE;simp [c1])
    simp (disch:=first|exact dd|fail) only [go_sem,seval,fkX,clD,tlD]
    exact LeV_fkt
  by_cases c2 : c.T.length ≤ 8
  case neg =>
    obtain ⟨rfl,rfl⟩:=no (by unfold okTE;simp [c2])
    simp (disch:=first|exact dd|fail) only [go_sem,seval,fkX,clD,tlD]
    exact LeV_fkt
  by_cases c3 : c.E.length = c.T.length
  case neg =>
    obtain ⟨rfl,rfl⟩:=no (by unfold okTE;simp [c3])
    simp (disch:=first|exact dd|fail) only [go_sem,seval,fkX,clD,tlD,esD,bne]
    exact LeV_fkt
  by_cases c4 : b.length ≤ 2
  case neg =>
    obtain ⟨rfl,rfl⟩:=no (by unfold okTE;simp [c4])
    simp (disch:=first|exact dd|fail) only [go_sem,seval,fkX,clD,tlD,esD,bxD,bne]
    exact LeV_fkt
  simp (disch:=first|exact dd|fail) only [go_sem,seval,fkX,clD,tlD,esD,bxD,bne]
  have hTl : (tV c.T).length = c.T.length:=List.length_map _
  refine AL.ofW (fun i : Nat => i ≤ c.T.length ∧ ∀ j,j < i → okTi b.length (c.T.getD j []) (c.E.getD j []) = true) (fun i => c.T.length - i) (fun i => [(0, .ad 0 0),(3, .ad 1 0),(39,tlD c.T),(40, .int .i64 c.T.length),(41, .int .i64 i)])
    (fun i => [(0,fkX k X b (.sl 2 i 0 i) (.sl 3 i 0 i)),(1, .var true 7 (clD c)),(2, .row false i true 3 i (qR (tV c.T))),(3, .row false i false 1 i (bfR (eV c.E)))]) 0
    ((Wk.nilV 0 9 true 3 (fun _ => .unk) rfl rfl (Nat.le_refl _)).trans (Wk.nilV 0 10 false 1 (fun _ => .unk) rfl rfl (Nat.le_succ _))) (by omega) ⟨Nat.zero_le _,fun j hj => absurd hj (by omega)⟩ ?_ ?_ ?_ ?_
  · simp (disch:=first|exact dd|fail) only [go_sem,seval,tlD]
    try exact LeV.refl _
  · simp (disch:=first|exact dd|fail) only [go_sem,seval,fkX,clD,List.set_cons_succ,List.set_cons_zero]
    exact ⟨LeV.refl _,LeV.refl _,fun j hj => absurd hj (by omega),fun j hj => absurd hj (by omega)⟩
  · intro x _;simp (disch:=first|exact dd|fail) only [go_sem,seval,fkX]
  rintro i ⟨hi,hok⟩
  by_cases hil : i = c.T.length
  · subst hil
    have hall : okTE b.length c = true:=by
      unfold okTE okTs
      rw [range_of hok]
      simp [c1,c2,c3,c4]
    rcases hfin with ⟨_,rfl,rfl⟩ | ⟨hno,_,_⟩
    case inr => rw [hall] at hno;cases hno
    simp (disch:=first|exact dd|fail) only [go_sem,seval,fkX,tlD]
    exact ⟨fun _ _ => trivial,fun _ _ => trivial⟩
  have htt:=ht _ (getD_mem' c.T i [] (by omega))
  have hee:=he _ (getD_mem' c.E i [] (by omega))
  have hp1 : tR c.T i = .str (c.T.getD i []):=rfl
  have hp2 : esR c.E i = txD (c.E.getD i []):=rfl
  have hmt:=map_at (l:=c.T) (f:=fun t => (rpO t).getD 0) (i:=i) (d:=[]) (e:=0) (by omega)
  have hme:=map_at (l:=c.E) (f:=fun e => (boxR e).1) (i:=i) (d:=[]) (e:=[]) (by omega)
  have hD:=dyad_Parse htt
  have hP:=box_Parse (l:=c.E.getD i []) (by omega) hee.2
  have hno : okTi b.length (c.T.getD i []) (c.E.getD i []) = false → r = false ∧ fin = [(0,fkX k X b .unk .unk)]:=fun h => no (by
    unfold okTE okTs
    rw [range_no (by omega) h,Bool.and_false])
  have hyes : okTi b.length (c.T.getD i []) (c.E.getD i []) = true → i + 1 ≤ c.T.length ∧ ∀ j,j < i + 1 → okTi b.length (c.T.getD j []) (c.E.getD j []) = true:=fun h => ⟨by omega,fun j hj => by
    rcases Nat.lt_or_ge j i with h2 | h2
    · exact hok j h2
    · rw [show j = i by omega];exact h⟩
  clear hfin no
  have hqt : qR (tV c.T) i = qD ((rpO (c.T.getD i [])).getD 0):=by unfold qR tV;rw [hmt]
  have hqe : bfR (eV c.E) i = bxD (boxR (c.E.getD i [])).1:=by unfold bfR eV;rw [hme]
  have hql:=fun (j : Nat) (hj : j < i + 1) => show Le (if j < i then qR (tV c.T) j else [qD ((rpO (c.T.getD i [])).getD 0)].getD (j - i) .unk) (qR (tV c.T) j) by
    by_cases h : j < i
    · rw [if_pos h];exact Le.refl _
    · obtain rfl : j = i:=by omega
      rw [if_neg h,Nat.sub_self,hqt];exact Le.refl _
  have hel:=fun (j : Nat) (hj : j < i + 1) => show Le (if j < i then bfR (eV c.E) j else [bxD (boxR (c.E.getD i [])).1].getD (j - i) .unk) (bfR (eV c.E) j) by
    by_cases h : j < i
    · rw [if_pos h];exact Le.refl _
    · obtain rfl : j = i:=by omega
      rw [if_neg h,Nat.sub_self,hqe];exact Le.refl _
  clear hmt hme hqt hqe
  unfold dpD at hD
  have hti : okTi b.length (c.T.getD i []) (c.E.getD i []) = ((match dpO (c.T.getD i []) with | some q => decide (0 < q.num) | none => false) && decide ((boxR (c.E.getD i [])).2 = 0) && decide ((boxR (c.E.getD i [])).1.length = b.length)):=rfl
  generalize c.T.getD i [] = t at *
  generalize c.E.getD i [] = e at *
  have hbl:=box_len e
  cases hd : dpO t with
  | none =>
    obtain ⟨rfl,rfl⟩:=hno (by rw [hti,hd];rfl)
    rw [hd] at hD
    by_cases h2 : (boxR e).2 = 0
    · simp only [boxD,if_pos h2] at hP
      simp (disch:=first|exact dd|fail) only [go_sem,seval,fkX,clD,tlD,hp1,esD,hp2]
      refine cA hD ?_
      simp (disch:=first|exact dd|fail) only [go_sem,seval,esD,hp2]
      refine cA hP ?_
      simp (disch:=first|exact dd|fail) only [go_sem,seval]
      exact LeV_fkt
    · simp only [boxD,if_neg h2] at hP
      simp (disch:=first|exact dd|fail) only [go_sem,seval,fkX,clD,tlD,hp1,esD,hp2]
      refine cA hD ?_
      simp (disch:=first|exact dd|fail) only [go_sem,seval,esD,hp2]
      refine cA hP ?_
      simp (disch:=first|exact dd|fail) only [go_sem,seval]
      exact LeV_fkt
  | some q =>
    rw [hd] at hD hti
    simp only at hD hti
    obtain ⟨hrp,hdy⟩:=dpO_rp hd
    rw [hrp,Option.getD_some] at hql
    have hR:=dyad_Rat (q:=q) ((rpO_qb hrp).mono (by omega)) hdy
    have hS:=rat_Sign ((rpO_qb hrp).qs (by omega))
    by_cases h2 : (boxR e).2 = 0
    case neg =>
      obtain ⟨rfl,rfl⟩:=hno (by rw [hti];simp [h2])
      simp only [boxD,if_neg h2] at hP
      simp (disch:=first|exact dd|fail) only [go_sem,seval,fkX,clD,tlD,hp1,esD,hp2]
      refine cA hD ?_
      simp (disch:=first|exact dd|fail) only [go_sem,seval,esD,hp2]
      refine cA hP ?_
      simp (disch:=first|exact dd|fail) only [go_sem,seval,bne,h2]
      exact LeV_fkt
    simp only [boxD,if_pos h2] at hP
    simp (disch:=first|exact dd|fail) only [go_sem,seval,fkX,clD,tlD,hp1,esD,hp2]
    refine cA hD ?_
    simp (disch:=first|exact dd|fail) only [go_sem,seval,esD,hp2]
    refine cA hP ?_
    simp (disch:=first|exact dd|fail) only [go_sem,seval,bne,h2]
    refine cA hR ?_
    simp (disch:=first|exact dd|fail) only [go_sem,seval]
    refine cA hS ?_
    by_cases h3 : 0 < q.num
    case neg =>
      obtain ⟨rfl,rfl⟩:=hno (by rw [hti];simp [h3])
      have hs : sgI q.num 0 ≤ 0:=by
        have:=sgI_cases q.num 0
        omega
      simp (disch:=first|exact dd|fail) only [go_sem,seval,hs,fkX]
      exact LeV_fkt
    have hs : sgI q.num 0 = 1:=sgI_gt h3
    by_cases h4 : (boxR e).1.length = b.length
    case neg =>
      obtain ⟨rfl,rfl⟩:=hno (by rw [hti];simp [h4])
      simp (disch:=first|exact dd|fail) only [go_sem,seval,hs,bxD,bne,fkX]
      exact LeV_fkt
    have hyes:=hyes (by rw [hti];simp [h2,h3,h4])
    have hel3 : ∀ j,j < i + 1 → Le (if j < i then bfR (eV c.E) j else [D.ro true 6 b.length (pR (boxR e).1)].getD (j - i) .unk) (bfR (eV c.E) j):=by
      rw [← h4];exact hel
    simp (disch:=first|exact dd|fail) only [go_sem,seval,hs,bxD,bne,h4]
    refine AReg_anyL 23 [0,1,2,3,4,5,6,7,8,9,10,11,12,13,14,15,16,17,18,19,20,21,22] rfl rfl (by decide +kernel) ?_
    refine AAny_free 0 [1,2,3,4,5,6,7,8,9,10,11,12,13,14,15,16,17,18,19,20,21,22] (by decide +kernel) rfl ?_
    refine AI_at _ rfl ?_
    simp (disch:=first|exact dd|fail) only [go_sem,seval]
    refine AAny_free 1 [2,3,4,5,6,7,8,9,10,11,12,13,14,15,16,17,18,19,20,21,22] (by decide +kernel) rfl ?_
    refine AI_at _ rfl ?_
    simp (disch:=first|exact dd|fail) only [go_sem,seval]
    refine AAny_free 2 [3,4,5,6,7,8,9,10,11,12,13,14,15,16,17,18,19,20,21,22] (by decide +kernel) rfl ?_
    refine AI_at _ rfl ?_
    simp (disch:=first|exact dd|fail) only [go_sem,seval]
    refine AAny_free 3 [4,5,6,7,8,9,10,11,12,13,14,15,16,17,18,19,20,21,22] (by decide +kernel) rfl ?_
    refine AI_at _ rfl ?_
    simp (disch:=first|exact dd|fail) only [go_sem,seval]
    refine AAny_free 4 [5,6,7,8,9,10,11,12,13,14,15,16,17,18,19,20,21,22] (by decide +kernel) rfl ?_
    refine AI_at _ rfl ?_
    simp (disch:=first|exact dd|fail) only [go_sem,seval]
    refine AAny_free 5 [6,7,8,9,10,11,12,13,14,15,16,17,18,19,20,21,22] (by decide +kernel) rfl ?_
    refine AI_at _ rfl ?_
    simp (disch:=first|exact dd|fail) only [go_sem,seval]
    refine AAny_free 6 [7,8,9,10,11,12,13,14,15,16,17,18,19,20,21,22] (by decide +kernel) rfl ?_
    refine AI_at _ rfl ?_
    simp (disch:=first|exact dd|fail) only [go_sem,seval]
    refine AAny_free 10 [7,8,9,11,12,13,14,15,16,17,18,19,20,21,22] (by decide +kernel) rfl ?_
    refine AI_at _ rfl ?_
    simp (disch:=first|exact dd|fail) only [go_sem,seval]
    refine AAny_free 14 [7,8,9,11,12,13,15,16,17,18,19,20,21,22] (by decide +kernel) rfl ?_
    refine AI_at _ rfl ?_
    simp (disch:=first|exact dd|fail) only [go_sem,seval]
    refine AAny_step [(7,[8,9,11,12,13,15,16,17,18,19,20,21,22]),(11,[7,8,9,12,13,15,16,17,18,19,20,21,22]),(15,[7,8,9,11,12,13,16,17,18,19,20,21,22])] (by decide +kernel) rfl ?_
    refine forall_more ?_ ?_
    · refine AI_at _ rfl ?_
      simp (disch:=first|exact dd|fail) only [go_sem,seval]
      refine cA hR ?_
      simp (disch:=first|exact dd|fail) only [go_sem,seval]
      refine AAny_step [(8,[9,11,12,13,15,16,17,18,19,20,21,22]),(11,[8,9,12,13,15,16,17,18,19,20,21,22]),(15,[8,9,11,12,13,16,17,18,19,20,21,22])] (by decide +kernel) rfl ?_
      refine forall_more ?_ ?_
      · refine AI_at _ rfl ?_
        simp (disch:=first|exact dd|fail) only [go_sem,seval]
        refine AAny_step [(9,[11,12,13,15,16,17,18,19,20,21,22]),(11,[9,12,13,15,16,17,18,19,20,21,22]),(15,[9,11,12,13,16,17,18,19,20,21,22])] (by decide +kernel) rfl ?_
        refine forall_more ?_ ?_
        · refine AI_at _ rfl ?_
          simp (disch:=first|exact dd|fail) only [go_sem,seval]
          refine ⟨.inl trivial, .inr trivial,by omega,by omega, ?_⟩
          refine AAny_free 11 [12,13,15,16,17,18,19,20,21,22] (by decide +kernel) rfl ?_
          refine AI_at _ rfl ?_
          simp (disch:=first|exact dd|fail) only [go_sem,seval]
          refine AAny_free 12 [13,15,16,17,18,19,20,21,22] (by decide +kernel) rfl ?_
          refine AI_at _ rfl ?_
          simp (disch:=first|exact dd|fail) only [go_sem,seval]
          refine AAny_free 13 [15,16,17,18,19,20,21,22] (by decide +kernel) rfl ?_
          refine AI_at _ rfl ?_
          simp (disch:=first|exact dd|fail) only [go_sem,seval]
          refine AAny_free 15 [16,17,18,19,20,21,22] (by decide +kernel) rfl ?_
          refine AI_at _ rfl ?_
          simp (disch:=first|exact dd|fail) only [go_sem,seval]
          refine AAny_free 16 [17,18,19,20,21,22] (by decide +kernel) rfl ?_
          refine AI_at _ rfl ?_
          simp (disch:=first|exact dd|fail) only [go_sem,seval]
          refine ⟨.inl trivial, .inr trivial,by omega,by omega, ?_⟩
          refine AAny_free 17 [18,19,20,21,22] (by decide +kernel) rfl ?_
          refine AI_at _ rfl ?_
          simp (disch:=first|exact dd|fail) only [go_sem,seval]
          refine AAny_free 18 [19,20,21,22] (by decide +kernel) rfl ?_
          refine AI_at _ rfl ?_
          simp (disch:=first|exact dd|fail) only [go_sem,seval]
          refine AAny_free 19 [20,21,22] (by decide +kernel) rfl ?_
          refine AI_at _ rfl ?_
          simp (disch:=first|exact dd|fail) only [go_sem,seval]
          refine AAny_free 20 [21,22] (by decide +kernel) rfl ?_
          refine AI_at _ rfl ?_
          simp (disch:=first|exact dd|fail) only [go_sem,seval]
          refine AAny_free 21 [22] (by decide +kernel) rfl ?_
          refine AI_at _ rfl ?_
          simp (disch:=first|exact dd|fail) only [go_sem,seval]
          refine AAny_free 22 [] (by decide +kernel) rfl ?_
          refine AI_at _ rfl ?_
          simp (disch:=first|exact dd|fail) only [go_sem,seval]
          refine AAny_end ?_
          simp (disch:=first|exact dd|fail) only [go_sem,seval]
          refine ⟨i + 1,hyes,by show c.T.length - (i + 1) < c.T.length - i;omega, ?_, ?_⟩
          · simp (disch:=first|exact dd|fail) only [go_sem,seval,tlD]
            try exact LeV.refl _
          · simp (disch:=first|exact dd|fail) only [go_sem,seval,fkX,clD,esD,tlD]
            exact ⟨fun j hj => hql j hj,fun j hj => hel3 j hj⟩
        refine forall_more ?_ ?_
        · refine AI_at _ rfl ?_
          simp (disch:=first|exact dd|fail) only [go_sem,seval]
          refine AAny_stab 12 [9,13,15,16,17,18,19,20,21,22] (by decide +kernel) rfl (by simp (disch:=first|exact dd|fail) only [go_sem,seval,stab,isVarB,blks,blkss,Op.operands,Call.operands,List.toList_toArray,Array.toList_append,List.all_cons,List.all_nil,Option.isNone_none]) ?_
          refine AI_at _ rfl ?_
          simp (disch:=first|exact dd|fail) only [go_sem,seval]
          refine AAny_stab 13 [9,15,16,17,18,19,20,21,22] (by decide +kernel) rfl (by simp (disch:=first|exact dd|fail) only [go_sem,seval,stab,isVarB,blks,blkss,Op.operands,Call.operands,List.toList_toArray,Array.toList_append,List.all_cons,List.all_nil,Option.isNone_none]) ?_
          refine AI_at _ rfl ?_
          simp (disch:=first|exact dd|fail) only [go_sem,seval]
          refine AAny_step [(9,[15,16,17,18,19,20,21,22]),(15,[9,16,17,18,19,20,21,22])] (by decide +kernel) rfl ?_
          refine forall_more ?_ ?_
          · refine AI_at _ rfl ?_
            simp (disch:=first|exact dd|fail) only [go_sem,seval]
            refine ⟨.inl trivial, .inr trivial,by omega,by omega, ?_⟩
            refine AAny_free 15 [16,17,18,19,20,21,22] (by decide +kernel) rfl ?_
            refine AI_at _ rfl ?_
            simp (disch:=first|exact dd|fail) only [go_sem,seval]
            refine AAny_free 16 [17,18,19,20,21,22] (by decide +kernel) rfl ?_
            refine AI_at _ rfl ?_
            simp (disch:=first|exact dd|fail) only [go_sem,seval]
            refine ⟨.inl trivial, .inr trivial,by omega,by omega, ?_⟩
            refine AAny_free 17 [18,19,20,21,22] (by decide +kernel) rfl ?_
            refine AI_at _ rfl ?_
            simp (disch:=first|exact dd|fail) only [go_sem,seval]
            refine AAny_free 18 [19,20,21,22] (by decide +kernel) rfl ?_
            refine AI_at _ rfl ?_
            simp (disch:=first|exact dd|fail) only [go_sem,seval]
            refine AAny_free 19 [20,21,22] (by decide +kernel) rfl ?_
            refine AI_at _ rfl ?_
            simp (disch:=first|exact dd|fail) only [go_sem,seval]
            refine AAny_free 20 [21,22] (by decide +kernel) rfl ?_
            refine AI_at _ rfl ?_
            simp (disch:=first|exact dd|fail) only [go_sem,seval]
            refine AAny_free 21 [22] (by decide +kernel) rfl ?_
            refine AI_at _ rfl ?_
            simp (disch:=first|exact dd|fail) only [go_sem,seval]
            refine AAny_free 22 [] (by decide +kernel) rfl ?_
            refine AI_at _ rfl ?_
            simp (disch:=first|exact dd|fail) only [go_sem,seval]
            refine AAny_end ?_
            simp (disch:=first|exact dd|fail) only [go_sem,seval]
            refine ⟨i + 1,hyes,by show c.T.length - (i + 1) < c.T.length - i;omega, ?_, ?_⟩
            · simp (disch:=first|exact dd|fail) only [go_sem,seval,tlD]
              try exact LeV.refl _
            · simp (disch:=first|exact dd|fail) only [go_sem,seval,fkX,clD,esD,tlD]
              exact ⟨fun j hj => hql j hj,fun j hj => hel3 j hj⟩
          refine forall_one ?_
          refine AI_at _ rfl ?_
          simp (disch:=first|exact dd|fail) only [go_sem,seval]
          refine AAny_free 9 [16,17,18,19,20,21,22] (by decide +kernel) rfl ?_
          refine AI_at _ rfl ?_
          simp (disch:=first|exact dd|fail) only [go_sem,seval]
          refine ⟨.inl trivial, .inr trivial,by omega,by omega, ?_⟩
          refine AAny_free 16 [17,18,19,20,21,22] (by decide +kernel) rfl ?_
          refine AI_at _ rfl ?_
          simp (disch:=first|exact dd|fail) only [go_sem,seval]
          refine ⟨.inl trivial, .inr trivial,by omega,by omega, ?_⟩
          refine AAny_free 17 [18,19,20,21,22] (by decide +kernel) rfl ?_
          refine AI_at _ rfl ?_
          simp (disch:=first|exact dd|fail) only [go_sem,seval]
          refine AAny_free 18 [19,20,21,22] (by decide +kernel) rfl ?_
          refine AI_at _ rfl ?_
          simp (disch:=first|exact dd|fail) only [go_sem,seval]
          refine AAny_free 19 [20,21,22] (by decide +kernel) rfl ?_
          refine AI_at _ rfl ?_
          simp (disch:=first|exact dd|fail) only [go_sem,seval]
          refine AAny_free 20 [21,22] (by decide +kernel) rfl ?_
          refine AI_at _ rfl ?_
          simp (disch:=first|exact dd|fail) only [go_sem,seval]
          refine AAny_free 21 [22] (by decide +kernel) rfl ?_
          refine AI_at _ rfl ?_
          simp (disch:=first|exact dd|fail) only [go_sem,seval]
          refine AAny_free 22 [] (by decide +kernel) rfl ?_
          refine AI_at _ rfl ?_
          simp (disch:=first|exact dd|fail) only [go_sem,seval]
          refine AAny_end ?_
          simp (disch:=first|exact dd|fail) only [go_sem,seval]
          refine ⟨i + 1,hyes,by show c.T.length - (i + 1) < c.T.length - i;omega, ?_, ?_⟩
          · simp (disch:=first|exact dd|fail) only [go_sem,seval,tlD]
            try exact LeV.refl _
          · simp (disch:=first|exact dd|fail) only [go_sem,seval,fkX,clD,esD,tlD]
            exact ⟨fun j hj => hql j hj,fun j hj => hel3 j hj⟩
        refine forall_one ?_
        refine AI_at _ rfl ?_
        simp (disch:=first|exact dd|fail) only [go_sem,seval]
        refine AAny_step [(9,[11,12,13,16,17,18,19,20,21,22]),(11,[9,12,13,16,17,18,19,20,21,22])] (by decide +kernel) rfl ?_
        refine forall_more ?_ ?_
        · refine AI_at _ rfl ?_
          simp (disch:=first|exact dd|fail) only [go_sem,seval]
          refine ⟨.inl trivial, .inr trivial,by omega,by omega, ?_⟩
          refine AAny_free 11 [12,13,16,17,18,19,20,21,22] (by decide +kernel) rfl ?_
          refine AI_at _ rfl ?_
          simp (disch:=first|exact dd|fail) only [go_sem,seval]
          refine AAny_free 12 [13,16,17,18,19,20,21,22] (by decide +kernel) rfl ?_
          refine AI_at _ rfl ?_
          simp (disch:=first|exact dd|fail) only [go_sem,seval]
          refine AAny_free 13 [16,17,18,19,20,21,22] (by decide +kernel) rfl ?_
          refine AI_at _ rfl ?_
          simp (disch:=first|exact dd|fail) only [go_sem,seval]
          refine AAny_free 16 [17,18,19,20,21,22] (by decide +kernel) rfl ?_
          refine AI_at _ rfl ?_
          simp (disch:=first|exact dd|fail) only [go_sem,seval]
          refine ⟨.inl trivial, .inr trivial,by omega,by omega, ?_⟩
          refine AAny_free 17 [18,19,20,21,22] (by decide +kernel) rfl ?_
          refine AI_at _ rfl ?_
          simp (disch:=first|exact dd|fail) only [go_sem,seval]
          refine AAny_free 18 [19,20,21,22] (by decide +kernel) rfl ?_
          refine AI_at _ rfl ?_
          simp (disch:=first|exact dd|fail) only [go_sem,seval]
          refine AAny_free 19 [20,21,22] (by decide +kernel) rfl ?_
          refine AI_at _ rfl ?_
          simp (disch:=first|exact dd|fail) only [go_sem,seval]
          refine AAny_free 20 [21,22] (by decide +kernel) rfl ?_
          refine AI_at _ rfl ?_
          simp (disch:=first|exact dd|fail) only [go_sem,seval]
          refine AAny_free 21 [22] (by decide +kernel) rfl ?_
          refine AI_at _ rfl ?_
          simp (disch:=first|exact dd|fail) only [go_sem,seval]
          refine AAny_free 22 [] (by decide +kernel) rfl ?_
          refine AI_at _ rfl ?_
          simp (disch:=first|exact dd|fail) only [go_sem,seval]
          refine AAny_end ?_
          simp (disch:=first|exact dd|fail) only [go_sem,seval]
          refine ⟨i + 1,hyes,by show c.T.length - (i + 1) < c.T.length - i;omega, ?_, ?_⟩
          · simp (disch:=first|exact dd|fail) only [go_sem,seval,tlD]
            try exact LeV.refl _
          · simp (disch:=first|exact dd|fail) only [go_sem,seval,fkX,clD,esD,tlD]
            exact ⟨fun j hj => hql j hj,fun j hj => hel3 j hj⟩
        refine forall_one ?_
        refine AI_at _ rfl ?_
        simp (disch:=first|exact dd|fail) only [go_sem,seval]
        refine AAny_stab 12 [9,13,16,17,18,19,20,21,22] (by decide +kernel) rfl (by simp (disch:=first|exact dd|fail) only [go_sem,seval,stab,isVarB,blks,blkss,Op.operands,Call.operands,List.toList_toArray,Array.toList_append,List.all_cons,List.all_nil,Option.isNone_none]) ?_
        refine AI_at _ rfl ?_
        simp (disch:=first|exact dd|fail) only [go_sem,seval]
        refine AAny_stab 13 [9,16,17,18,19,20,21,22] (by decide +kernel) rfl (by simp (disch:=first|exact dd|fail) only [go_sem,seval,stab,isVarB,blks,blkss,Op.operands,Call.operands,List.toList_toArray,Array.toList_append,List.all_cons,List.all_nil,Option.isNone_none]) ?_
        refine AI_at _ rfl ?_
        simp (disch:=first|exact dd|fail) only [go_sem,seval]
        refine AAny_free 9 [16,17,18,19,20,21,22] (by decide +kernel) rfl ?_
        refine AI_at _ rfl ?_
        simp (disch:=first|exact dd|fail) only [go_sem,seval]
        refine ⟨.inl trivial, .inr trivial,by omega,by omega, ?_⟩
        refine AAny_free 16 [17,18,19,20,21,22] (by decide +kernel) rfl ?_
        refine AI_at _ rfl ?_
        simp (disch:=first|exact dd|fail) only [go_sem,seval]
        refine ⟨.inl trivial, .inr trivial,by omega,by omega, ?_⟩
        refine AAny_free 17 [18,19,20,21,22] (by decide +kernel) rfl ?_
        refine AI_at _ rfl ?_
        simp (disch:=first|exact dd|fail) only [go_sem,seval]
        refine AAny_free 18 [19,20,21,22] (by decide +kernel) rfl ?_
        refine AI_at _ rfl ?_
        simp (disch:=first|exact dd|fail) only [go_sem,seval]
        refine AAny_free 19 [20,21,22] (by decide +kernel) rfl ?_
        refine AI_at _ rfl ?_
        simp (disch:=first|exact dd|fail) only [go_sem,seval]
        refine AAny_free 20 [21,22] (by decide +kernel) rfl ?_
        refine AI_at _ rfl ?_
        simp (disch:=first|exact dd|fail) only [go_sem,seval]
        refine AAny_free 21 [22] (by decide +kernel) rfl ?_
        refine AI_at _ rfl ?_
        simp (disch:=first|exact dd|fail) only [go_sem,seval]
        refine AAny_free 22 [] (by decide +kernel) rfl ?_
        refine AI_at _ rfl ?_
        simp (disch:=first|exact dd|fail) only [go_sem,seval]
        refine AAny_end ?_
        simp (disch:=first|exact dd|fail) only [go_sem,seval]
        refine ⟨i + 1,hyes,by show c.T.length - (i + 1) < c.T.length - i;omega, ?_, ?_⟩
        · simp (disch:=first|exact dd|fail) only [go_sem,seval,tlD]
          try exact LeV.refl _
        · simp (disch:=first|exact dd|fail) only [go_sem,seval,fkX,clD,esD,tlD]
          exact ⟨fun j hj => hql j hj,fun j hj => hel3 j hj⟩
      refine forall_more ?_ ?_
      · refine AI_at _ rfl ?_
        simp (disch:=first|exact dd|fail) only [go_sem,seval]
        refine AAny_stab 12 [8,9,13,15,16,17,18,19,20,21,22] (by decide +kernel) rfl (by simp (disch:=first|exact dd|fail) only [go_sem,seval,stab,isVarB,blks,blkss,Op.operands,Call.operands,List.toList_toArray,Array.toList_append,List.all_cons,List.all_nil,Option.isNone_none]) ?_
        refine AI_at _ rfl ?_
        simp (disch:=first|exact dd|fail) only [go_sem,seval]
        refine AAny_stab 13 [8,9,15,16,17,18,19,20,21,22] (by decide +kernel) rfl (by simp (disch:=first|exact dd|fail) only [go_sem,seval,stab,isVarB,blks,blkss,Op.operands,Call.operands,List.toList_toArray,Array.toList_append,List.all_cons,List.all_nil,Option.isNone_none]) ?_
        refine AI_at _ rfl ?_
        simp (disch:=first|exact dd|fail) only [go_sem,seval]
        refine AAny_step [(8,[9,15,16,17,18,19,20,21,22]),(15,[8,9,16,17,18,19,20,21,22])] (by decide +kernel) rfl ?_
        refine forall_more ?_ ?_
        · refine AI_at _ rfl ?_
          simp (disch:=first|exact dd|fail) only [go_sem,seval]
          refine AAny_step [(9,[15,16,17,18,19,20,21,22]),(15,[9,16,17,18,19,20,21,22])] (by decide +kernel) rfl ?_
          refine forall_more ?_ ?_
          · refine AI_at _ rfl ?_
            simp (disch:=first|exact dd|fail) only [go_sem,seval]
            refine ⟨.inl trivial, .inr trivial,by omega,by omega, ?_⟩
            refine AAny_free 15 [16,17,18,19,20,21,22] (by decide +kernel) rfl ?_
            refine AI_at _ rfl ?_
            simp (disch:=first|exact dd|fail) only [go_sem,seval]
            refine AAny_free 16 [17,18,19,20,21,22] (by decide +kernel) rfl ?_
            refine AI_at _ rfl ?_
            simp (disch:=first|exact dd|fail) only [go_sem,seval]
            refine ⟨.inl trivial, .inr trivial,by omega,by omega, ?_⟩
            refine AAny_free 17 [18,19,20,21,22] (by decide +kernel) rfl ?_
            refine AI_at _ rfl ?_
            simp (disch:=first|exact dd|fail) only [go_sem,seval]
            refine AAny_free 18 [19,20,21,22] (by decide +kernel) rfl ?_
            refine AI_at _ rfl ?_
            simp (disch:=first|exact dd|fail) only [go_sem,seval]
            refine AAny_free 19 [20,21,22] (by decide +kernel) rfl ?_
            refine AI_at _ rfl ?_
            simp (disch:=first|exact dd|fail) only [go_sem,seval]
            refine AAny_free 20 [21,22] (by decide +kernel) rfl ?_
            refine AI_at _ rfl ?_
            simp (disch:=first|exact dd|fail) only [go_sem,seval]
            refine AAny_free 21 [22] (by decide +kernel) rfl ?_
            refine AI_at _ rfl ?_
            simp (disch:=first|exact dd|fail) only [go_sem,seval]
            refine AAny_free 22 [] (by decide +kernel) rfl ?_
            refine AI_at _ rfl ?_
            simp (disch:=first|exact dd|fail) only [go_sem,seval]
            refine AAny_end ?_
            simp (disch:=first|exact dd|fail) only [go_sem,seval]
            refine ⟨i + 1,hyes,by show c.T.length - (i + 1) < c.T.length - i;omega, ?_, ?_⟩
            · simp (disch:=first|exact dd|fail) only [go_sem,seval,tlD]
              try exact LeV.refl _
            · simp (disch:=first|exact dd|fail) only [go_sem,seval,fkX,clD,esD,tlD]
              exact ⟨fun j hj => hql j hj,fun j hj => hel3 j hj⟩
          refine forall_one ?_
          refine AI_at _ rfl ?_
          simp (disch:=first|exact dd|fail) only [go_sem,seval]
          refine AAny_free 9 [16,17,18,19,20,21,22] (by decide +kernel) rfl ?_
          refine AI_at _ rfl ?_
          simp (disch:=first|exact dd|fail) only [go_sem,seval]
          refine ⟨.inl trivial, .inr trivial,by omega,by omega, ?_⟩
          refine AAny_free 16 [17,18,19,20,21,22] (by decide +kernel) rfl ?_
          refine AI_at _ rfl ?_
          simp (disch:=first|exact dd|fail) only [go_sem,seval]
          refine ⟨.inl trivial, .inr trivial,by omega,by omega, ?_⟩
          refine AAny_free 17 [18,19,20,21,22] (by decide +kernel) rfl ?_
          refine AI_at _ rfl ?_
          simp (disch:=first|exact dd|fail) only [go_sem,seval]
          refine AAny_free 18 [19,20,21,22] (by decide +kernel) rfl ?_
          refine AI_at _ rfl ?_
          simp (disch:=first|exact dd|fail) only [go_sem,seval]
          refine AAny_free 19 [20,21,22] (by decide +kernel) rfl ?_
          refine AI_at _ rfl ?_
          simp (disch:=first|exact dd|fail) only [go_sem,seval]
          refine AAny_free 20 [21,22] (by decide +kernel) rfl ?_
          refine AI_at _ rfl ?_
          simp (disch:=first|exact dd|fail) only [go_sem,seval]
          refine AAny_free 21 [22] (by decide +kernel) rfl ?_
          refine AI_at _ rfl ?_
          simp (disch:=first|exact dd|fail) only [go_sem,seval]
          refine AAny_free 22 [] (by decide +kernel) rfl ?_
          refine AI_at _ rfl ?_
          simp (disch:=first|exact dd|fail) only [go_sem,seval]
          refine AAny_end ?_
          simp (disch:=first|exact dd|fail) only [go_sem,seval]
          refine ⟨i + 1,hyes,by show c.T.length - (i + 1) < c.T.length - i;omega, ?_, ?_⟩
          · simp (disch:=first|exact dd|fail) only [go_sem,seval,tlD]
            try exact LeV.refl _
          · simp (disch:=first|exact dd|fail) only [go_sem,seval,fkX,clD,esD,tlD]
            exact ⟨fun j hj => hql j hj,fun j hj => hel3 j hj⟩
        refine forall_one ?_
        refine AI_at _ rfl ?_
        simp (disch:=first|exact dd|fail) only [go_sem,seval]
        refine AAny_free 8 [9,16,17,18,19,20,21,22] (by decide +kernel) rfl ?_
        refine AI_at _ rfl ?_
        simp (disch:=first|exact dd|fail) only [go_sem,seval]
        refine AAny_free 9 [16,17,18,19,20,21,22] (by decide +kernel) rfl ?_
        refine AI_at _ rfl ?_
        simp (disch:=first|exact dd|fail) only [go_sem,seval]
        refine ⟨.inl trivial, .inr trivial,by omega,by omega, ?_⟩
        refine AAny_free 16 [17,18,19,20,21,22] (by decide +kernel) rfl ?_
        refine AI_at _ rfl ?_
        simp (disch:=first|exact dd|fail) only [go_sem,seval]
        refine ⟨.inl trivial, .inr trivial,by omega,by omega, ?_⟩
        refine AAny_free 17 [18,19,20,21,22] (by decide +kernel) rfl ?_
        refine AI_at _ rfl ?_
        simp (disch:=first|exact dd|fail) only [go_sem,seval]
        refine AAny_free 18 [19,20,21,22] (by decide +kernel) rfl ?_
        refine AI_at _ rfl ?_
        simp (disch:=first|exact dd|fail) only [go_sem,seval]
        refine AAny_free 19 [20,21,22] (by decide +kernel) rfl ?_
        refine AI_at _ rfl ?_
        simp (disch:=first|exact dd|fail) only [go_sem,seval]
        refine AAny_free 20 [21,22] (by decide +kernel) rfl ?_
        refine AI_at _ rfl ?_
        simp (disch:=first|exact dd|fail) only [go_sem,seval]
        refine AAny_free 21 [22] (by decide +kernel) rfl ?_
        refine AI_at _ rfl ?_
        simp (disch:=first|exact dd|fail) only [go_sem,seval]
        refine AAny_free 22 [] (by decide +kernel) rfl ?_
        refine AI_at _ rfl ?_
        simp (disch:=first|exact dd|fail) only [go_sem,seval]
        refine AAny_end ?_
        simp (disch:=first|exact dd|fail) only [go_sem,seval]
        refine ⟨i + 1,hyes,by show c.T.length - (i + 1) < c.T.length - i;omega, ?_, ?_⟩
        · simp (disch:=first|exact dd|fail) only [go_sem,seval,tlD]
          try exact LeV.refl _
        · simp (disch:=first|exact dd|fail) only [go_sem,seval,fkX,clD,esD,tlD]
          exact ⟨fun j hj => hql j hj,fun j hj => hel3 j hj⟩
      refine forall_one ?_
      refine AI_at _ rfl ?_
      simp (disch:=first|exact dd|fail) only [go_sem,seval]
      refine AAny_free 8 [9,11,12,13,16,17,18,19,20,21,22] (by decide +kernel) rfl ?_
      refine AI_at _ rfl ?_
      simp (disch:=first|exact dd|fail) only [go_sem,seval]
      refine AAny_step [(9,[11,12,13,16,17,18,19,20,21,22]),(11,[9,12,13,16,17,18,19,20,21,22])] (by decide +kernel) rfl ?_
      refine forall_more ?_ ?_
      · refine AI_at _ rfl ?_
        simp (disch:=first|exact dd|fail) only [go_sem,seval]
        refine ⟨.inl trivial, .inr trivial,by omega,by omega, ?_⟩
        refine AAny_free 11 [12,13,16,17,18,19,20,21,22] (by decide +kernel) rfl ?_
        refine AI_at _ rfl ?_
        simp (disch:=first|exact dd|fail) only [go_sem,seval]
        refine AAny_free 12 [13,16,17,18,19,20,21,22] (by decide +kernel) rfl ?_
        refine AI_at _ rfl ?_
        simp (disch:=first|exact dd|fail) only [go_sem,seval]
        refine AAny_free 13 [16,17,18,19,20,21,22] (by decide +kernel) rfl ?_
        refine AI_at _ rfl ?_
        simp (disch:=first|exact dd|fail) only [go_sem,seval]
        refine AAny_free 16 [17,18,19,20,21,22] (by decide +kernel) rfl ?_
        refine AI_at _ rfl ?_
        simp (disch:=first|exact dd|fail) only [go_sem,seval]
        refine ⟨.inl trivial, .inr trivial,by omega,by omega, ?_⟩
        refine AAny_free 17 [18,19,20,21,22] (by decide +kernel) rfl ?_
        refine AI_at _ rfl ?_
        simp (disch:=first|exact dd|fail) only [go_sem,seval]
        refine AAny_free 18 [19,20,21,22] (by decide +kernel) rfl ?_
        refine AI_at _ rfl ?_
        simp (disch:=first|exact dd|fail) only [go_sem,seval]
        refine AAny_free 19 [20,21,22] (by decide +kernel) rfl ?_
        refine AI_at _ rfl ?_
        simp (disch:=first|exact dd|fail) only [go_sem,seval]
        refine AAny_free 20 [21,22] (by decide +kernel) rfl ?_
        refine AI_at _ rfl ?_
        simp (disch:=first|exact dd|fail) only [go_sem,seval]
        refine AAny_free 21 [22] (by decide +kernel) rfl ?_
        refine AI_at _ rfl ?_
        simp (disch:=first|exact dd|fail) only [go_sem,seval]
        refine AAny_free 22 [] (by decide +kernel) rfl ?_
        refine AI_at _ rfl ?_
        simp (disch:=first|exact dd|fail) only [go_sem,seval]
        refine AAny_end ?_
        simp (disch:=first|exact dd|fail) only [go_sem,seval]
        refine ⟨i + 1,hyes,by show c.T.length - (i + 1) < c.T.length - i;omega, ?_, ?_⟩
        · simp (disch:=first|exact dd|fail) only [go_sem,seval,tlD]
          try exact LeV.refl _
        · simp (disch:=first|exact dd|fail) only [go_sem,seval,fkX,clD,esD,tlD]
          exact ⟨fun j hj => hql j hj,fun j hj => hel3 j hj⟩
      refine forall_one ?_
      refine AI_at _ rfl ?_
      simp (disch:=first|exact dd|fail) only [go_sem,seval]
      refine AAny_stab 12 [9,13,16,17,18,19,20,21,22] (by decide +kernel) rfl (by simp (disch:=first|exact dd|fail) only [go_sem,seval,stab,isVarB,blks,blkss,Op.operands,Call.operands,List.toList_toArray,Array.toList_append,List.all_cons,List.all_nil,Option.isNone_none]) ?_
      refine AI_at _ rfl ?_
      simp (disch:=first|exact dd|fail) only [go_sem,seval]
      refine AAny_stab 13 [9,16,17,18,19,20,21,22] (by decide +kernel) rfl (by simp (disch:=first|exact dd|fail) only [go_sem,seval,stab,isVarB,blks,blkss,Op.operands,Call.operands,List.toList_toArray,Array.toList_append,List.all_cons,List.all_nil,Option.isNone_none]) ?_
      refine AI_at _ rfl ?_
      simp (disch:=first|exact dd|fail) only [go_sem,seval]
      refine AAny_free 9 [16,17,18,19,20,21,22] (by decide +kernel) rfl ?_
      refine AI_at _ rfl ?_
      simp (disch:=first|exact dd|fail) only [go_sem,seval]
      refine ⟨.inl trivial, .inr trivial,by omega,by omega, ?_⟩
      refine AAny_free 16 [17,18,19,20,21,22] (by decide +kernel) rfl ?_
      refine AI_at _ rfl ?_
      simp (disch:=first|exact dd|fail) only [go_sem,seval]
      refine ⟨.inl trivial, .inr trivial,by omega,by omega, ?_⟩
      refine AAny_free 17 [18,19,20,21,22] (by decide +kernel) rfl ?_
      refine AI_at _ rfl ?_
      simp (disch:=first|exact dd|fail) only [go_sem,seval]
      refine AAny_free 18 [19,20,21,22] (by decide +kernel) rfl ?_
      refine AI_at _ rfl ?_
      simp (disch:=first|exact dd|fail) only [go_sem,seval]
      refine AAny_free 19 [20,21,22] (by decide +kernel) rfl ?_
      refine AI_at _ rfl ?_
      simp (disch:=first|exact dd|fail) only [go_sem,seval]
      refine AAny_free 20 [21,22] (by decide +kernel) rfl ?_
      refine AI_at _ rfl ?_
      simp (disch:=first|exact dd|fail) only [go_sem,seval]
      refine AAny_free 21 [22] (by decide +kernel) rfl ?_
      refine AI_at _ rfl ?_
      simp (disch:=first|exact dd|fail) only [go_sem,seval]
      refine AAny_free 22 [] (by decide +kernel) rfl ?_
      refine AI_at _ rfl ?_
      simp (disch:=first|exact dd|fail) only [go_sem,seval]
      refine AAny_end ?_
      simp (disch:=first|exact dd|fail) only [go_sem,seval]
      refine ⟨i + 1,hyes,by show c.T.length - (i + 1) < c.T.length - i;omega, ?_, ?_⟩
      · simp (disch:=first|exact dd|fail) only [go_sem,seval,tlD]
        try exact LeV.refl _
      · simp (disch:=first|exact dd|fail) only [go_sem,seval,fkX,clD,esD,tlD]
        exact ⟨fun j hj => hql j hj,fun j hj => hel3 j hj⟩
    refine forall_more ?_ ?_
    · refine AI_at _ rfl ?_
      simp (disch:=first|exact dd|fail) only [go_sem,seval]
      refine AAny_stab 12 [7,8,9,13,15,16,17,18,19,20,21,22] (by decide +kernel) rfl (by simp (disch:=first|exact dd|fail) only [go_sem,seval,stab,isVarB,blks,blkss,Op.operands,Call.operands,List.toList_toArray,Array.toList_append,List.all_cons,List.all_nil,Option.isNone_none]) ?_
      refine AI_at _ rfl ?_
      simp (disch:=first|exact dd|fail) only [go_sem,seval]
      refine AAny_stab 13 [7,8,9,15,16,17,18,19,20,21,22] (by decide +kernel) rfl (by simp (disch:=first|exact dd|fail) only [go_sem,seval,stab,isVarB,blks,blkss,Op.operands,Call.operands,List.toList_toArray,Array.toList_append,List.all_cons,List.all_nil,Option.isNone_none]) ?_
      refine AI_at _ rfl ?_
      simp (disch:=first|exact dd|fail) only [go_sem,seval]
      refine AAny_step [(7,[8,9,15,16,17,18,19,20,21,22]),(15,[7,8,9,16,17,18,19,20,21,22])] (by decide +kernel) rfl ?_
      refine forall_more ?_ ?_
      · refine AI_at _ rfl ?_
        simp (disch:=first|exact dd|fail) only [go_sem,seval]
        refine cA hR ?_
        simp (disch:=first|exact dd|fail) only [go_sem,seval]
        refine AAny_step [(8,[9,15,16,17,18,19,20,21,22]),(15,[8,9,16,17,18,19,20,21,22])] (by decide +kernel) rfl ?_
        refine forall_more ?_ ?_
        · refine AI_at _ rfl ?_
          simp (disch:=first|exact dd|fail) only [go_sem,seval]
          refine AAny_step [(9,[15,16,17,18,19,20,21,22]),(15,[9,16,17,18,19,20,21,22])] (by decide +kernel) rfl ?_
          refine forall_more ?_ ?_
          · refine AI_at _ rfl ?_
            simp (disch:=first|exact dd|fail) only [go_sem,seval]
            refine ⟨.inl trivial, .inr trivial,by omega,by omega, ?_⟩
            refine AAny_free 15 [16,17,18,19,20,21,22] (by decide +kernel) rfl ?_
            refine AI_at _ rfl ?_
            simp (disch:=first|exact dd|fail) only [go_sem,seval]
            refine AAny_free 16 [17,18,19,20,21,22] (by decide +kernel) rfl ?_
            refine AI_at _ rfl ?_
            simp (disch:=first|exact dd|fail) only [go_sem,seval]
            refine ⟨.inl trivial, .inr trivial,by omega,by omega, ?_⟩
            refine AAny_free 17 [18,19,20,21,22] (by decide +kernel) rfl ?_
            refine AI_at _ rfl ?_
            simp (disch:=first|exact dd|fail) only [go_sem,seval]
            refine AAny_free 18 [19,20,21,22] (by decide +kernel) rfl ?_
            refine AI_at _ rfl ?_
            simp (disch:=first|exact dd|fail) only [go_sem,seval]
            refine AAny_free 19 [20,21,22] (by decide +kernel) rfl ?_
            refine AI_at _ rfl ?_
            simp (disch:=first|exact dd|fail) only [go_sem,seval]
            refine AAny_free 20 [21,22] (by decide +kernel) rfl ?_
            refine AI_at _ rfl ?_
            simp (disch:=first|exact dd|fail) only [go_sem,seval]
            refine AAny_free 21 [22] (by decide +kernel) rfl ?_
            refine AI_at _ rfl ?_
            simp (disch:=first|exact dd|fail) only [go_sem,seval]
            refine AAny_free 22 [] (by decide +kernel) rfl ?_
            refine AI_at _ rfl ?_
            simp (disch:=first|exact dd|fail) only [go_sem,seval]
            refine AAny_end ?_
            simp (disch:=first|exact dd|fail) only [go_sem,seval]
            refine ⟨i + 1,hyes,by show c.T.length - (i + 1) < c.T.length - i;omega, ?_, ?_⟩
            · simp (disch:=first|exact dd|fail) only [go_sem,seval,tlD]
              try exact LeV.refl _
            · simp (disch:=first|exact dd|fail) only [go_sem,seval,fkX,clD,esD,tlD]
              exact ⟨fun j hj => hql j hj,fun j hj => hel3 j hj⟩
          refine forall_one ?_
          refine AI_at _ rfl ?_
          simp (disch:=first|exact dd|fail) only [go_sem,seval]
          refine AAny_free 9 [16,17,18,19,20,21,22] (by decide +kernel) rfl ?_
          refine AI_at _ rfl ?_
          simp (disch:=first|exact dd|fail) only [go_sem,seval]
          refine ⟨.inl trivial, .inr trivial,by omega,by omega, ?_⟩
          refine AAny_free 16 [17,18,19,20,21,22] (by decide +kernel) rfl ?_
          refine AI_at _ rfl ?_
          simp (disch:=first|exact dd|fail) only [go_sem,seval]
          refine ⟨.inl trivial, .inr trivial,by omega,by omega, ?_⟩
          refine AAny_free 17 [18,19,20,21,22] (by decide +kernel) rfl ?_
          refine AI_at _ rfl ?_
          simp (disch:=first|exact dd|fail) only [go_sem,seval]
          refine AAny_free 18 [19,20,21,22] (by decide +kernel) rfl ?_
          refine AI_at _ rfl ?_
          simp (disch:=first|exact dd|fail) only [go_sem,seval]
          refine AAny_free 19 [20,21,22] (by decide +kernel) rfl ?_
          refine AI_at _ rfl ?_
          simp (disch:=first|exact dd|fail) only [go_sem,seval]
          refine AAny_free 20 [21,22] (by decide +kernel) rfl ?_
          refine AI_at _ rfl ?_
          simp (disch:=first|exact dd|fail) only [go_sem,seval]
          refine AAny_free 21 [22] (by decide +kernel) rfl ?_
          refine AI_at _ rfl ?_
          simp (disch:=first|exact dd|fail) only [go_sem,seval]
          refine AAny_free 22 [] (by decide +kernel) rfl ?_
          refine AI_at _ rfl ?_
          simp (disch:=first|exact dd|fail) only [go_sem,seval]
          refine AAny_end ?_
          simp (disch:=first|exact dd|fail) only [go_sem,seval]
          refine ⟨i + 1,hyes,by show c.T.length - (i + 1) < c.T.length - i;omega, ?_, ?_⟩
          · simp (disch:=first|exact dd|fail) only [go_sem,seval,tlD]
            try exact LeV.refl _
          · simp (disch:=first|exact dd|fail) only [go_sem,seval,fkX,clD,esD,tlD]
            exact ⟨fun j hj => hql j hj,fun j hj => hel3 j hj⟩
        refine forall_one ?_
        refine AI_at _ rfl ?_
        simp (disch:=first|exact dd|fail) only [go_sem,seval]
        refine AAny_free 8 [9,16,17,18,19,20,21,22] (by decide +kernel) rfl ?_
        refine AI_at _ rfl ?_
        simp (disch:=first|exact dd|fail) only [go_sem,seval]
        refine AAny_free 9 [16,17,18,19,20,21,22] (by decide +kernel) rfl ?_
        refine AI_at _ rfl ?_
        simp (disch:=first|exact dd|fail) only [go_sem,seval]
        refine ⟨.inl trivial, .inr trivial,by omega,by omega, ?_⟩
        refine AAny_free 16 [17,18,19,20,21,22] (by decide +kernel) rfl ?_
        refine AI_at _ rfl ?_
        simp (disch:=first|exact dd|fail) only [go_sem,seval]
        refine ⟨.inl trivial, .inr trivial,by omega,by omega, ?_⟩
        refine AAny_free 17 [18,19,20,21,22] (by decide +kernel) rfl ?_
        refine AI_at _ rfl ?_
        simp (disch:=first|exact dd|fail) only [go_sem,seval]
        refine AAny_free 18 [19,20,21,22] (by decide +kernel) rfl ?_
        refine AI_at _ rfl ?_
        simp (disch:=first|exact dd|fail) only [go_sem,seval]
        refine AAny_free 19 [20,21,22] (by decide +kernel) rfl ?_
        refine AI_at _ rfl ?_
        simp (disch:=first|exact dd|fail) only [go_sem,seval]
        refine AAny_free 20 [21,22] (by decide +kernel) rfl ?_
        refine AI_at _ rfl ?_
        simp (disch:=first|exact dd|fail) only [go_sem,seval]
        refine AAny_free 21 [22] (by decide +kernel) rfl ?_
        refine AI_at _ rfl ?_
        simp (disch:=first|exact dd|fail) only [go_sem,seval]
        refine AAny_free 22 [] (by decide +kernel) rfl ?_
        refine AI_at _ rfl ?_
        simp (disch:=first|exact dd|fail) only [go_sem,seval]
        refine AAny_end ?_
        simp (disch:=first|exact dd|fail) only [go_sem,seval]
        refine ⟨i + 1,hyes,by show c.T.length - (i + 1) < c.T.length - i;omega, ?_, ?_⟩
        · simp (disch:=first|exact dd|fail) only [go_sem,seval,tlD]
          try exact LeV.refl _
        · simp (disch:=first|exact dd|fail) only [go_sem,seval,fkX,clD,esD,tlD]
          exact ⟨fun j hj => hql j hj,fun j hj => hel3 j hj⟩
      refine forall_one ?_
      refine AI_at _ rfl ?_
      simp (disch:=first|exact dd|fail) only [go_sem,seval]
      refine AAny_free 7 [8,9,16,17,18,19,20,21,22] (by decide +kernel) rfl ?_
      refine AI_at _ rfl ?_
      simp (disch:=first|exact dd|fail) only [go_sem,seval]
      refine cA hR ?_
      simp (disch:=first|exact dd|fail) only [go_sem,seval]
      refine AAny_free 8 [9,16,17,18,19,20,21,22] (by decide +kernel) rfl ?_
      refine AI_at _ rfl ?_
      simp (disch:=first|exact dd|fail) only [go_sem,seval]
      refine AAny_free 9 [16,17,18,19,20,21,22] (by decide +kernel) rfl ?_
      refine AI_at _ rfl ?_
      simp (disch:=first|exact dd|fail) only [go_sem,seval]
      refine ⟨.inl trivial, .inr trivial,by omega,by omega, ?_⟩
      refine AAny_free 16 [17,18,19,20,21,22] (by decide +kernel) rfl ?_
      refine AI_at _ rfl ?_
      simp (disch:=first|exact dd|fail) only [go_sem,seval]
      refine ⟨.inl trivial, .inr trivial,by omega,by omega, ?_⟩
      refine AAny_free 17 [18,19,20,21,22] (by decide +kernel) rfl ?_
      refine AI_at _ rfl ?_
      simp (disch:=first|exact dd|fail) only [go_sem,seval]
      refine AAny_free 18 [19,20,21,22] (by decide +kernel) rfl ?_
      refine AI_at _ rfl ?_
      simp (disch:=first|exact dd|fail) only [go_sem,seval]
      refine AAny_free 19 [20,21,22] (by decide +kernel) rfl ?_
      refine AI_at _ rfl ?_
      simp (disch:=first|exact dd|fail) only [go_sem,seval]
      refine AAny_free 20 [21,22] (by decide +kernel) rfl ?_
      refine AI_at _ rfl ?_
      simp (disch:=first|exact dd|fail) only [go_sem,seval]
      refine AAny_free 21 [22] (by decide +kernel) rfl ?_
      refine AI_at _ rfl ?_
      simp (disch:=first|exact dd|fail) only [go_sem,seval]
      refine AAny_free 22 [] (by decide +kernel) rfl ?_
      refine AI_at _ rfl ?_
      simp (disch:=first|exact dd|fail) only [go_sem,seval]
      refine AAny_end ?_
      simp (disch:=first|exact dd|fail) only [go_sem,seval]
      refine ⟨i + 1,hyes,by show c.T.length - (i + 1) < c.T.length - i;omega, ?_, ?_⟩
      · simp (disch:=first|exact dd|fail) only [go_sem,seval,tlD]
        try exact LeV.refl _
      · simp (disch:=first|exact dd|fail) only [go_sem,seval,fkX,clD,esD,tlD]
        exact ⟨fun j hj => hql j hj,fun j hj => hel3 j hj⟩
    refine forall_one ?_
    refine AI_at _ rfl ?_
    simp (disch:=first|exact dd|fail) only [go_sem,seval]
    refine AAny_free 7 [8,9,11,12,13,16,17,18,19,20,21,22] (by decide +kernel) rfl ?_
    refine AI_at _ rfl ?_
    simp (disch:=first|exact dd|fail) only [go_sem,seval]
    refine cA hR ?_
    simp (disch:=first|exact dd|fail) only [go_sem,seval]
    refine AAny_free 8 [9,11,12,13,16,17,18,19,20,21,22] (by decide +kernel) rfl ?_
    refine AI_at _ rfl ?_
    simp (disch:=first|exact dd|fail) only [go_sem,seval]
    refine AAny_step [(9,[11,12,13,16,17,18,19,20,21,22]),(11,[9,12,13,16,17,18,19,20,21,22])] (by decide +kernel) rfl ?_
    refine forall_more ?_ ?_
    · refine AI_at _ rfl ?_
      simp (disch:=first|exact dd|fail) only [go_sem,seval]
      refine ⟨.inl trivial, .inr trivial,by omega,by omega, ?_⟩
      refine AAny_free 11 [12,13,16,17,18,19,20,21,22] (by decide +kernel) rfl ?_
      refine AI_at _ rfl ?_
      simp (disch:=first|exact dd|fail) only [go_sem,seval]
      refine AAny_free 12 [13,16,17,18,19,20,21,22] (by decide +kernel) rfl ?_
      refine AI_at _ rfl ?_
      simp (disch:=first|exact dd|fail) only [go_sem,seval]
      refine AAny_free 13 [16,17,18,19,20,21,22] (by decide +kernel) rfl ?_
      refine AI_at _ rfl ?_
      simp (disch:=first|exact dd|fail) only [go_sem,seval]
      refine AAny_free 16 [17,18,19,20,21,22] (by decide +kernel) rfl ?_
      refine AI_at _ rfl ?_
      simp (disch:=first|exact dd|fail) only [go_sem,seval]
      refine ⟨.inl trivial, .inr trivial,by omega,by omega, ?_⟩
      refine AAny_free 17 [18,19,20,21,22] (by decide +kernel) rfl ?_
      refine AI_at _ rfl ?_
      simp (disch:=first|exact dd|fail) only [go_sem,seval]
      refine AAny_free 18 [19,20,21,22] (by decide +kernel) rfl ?_
      refine AI_at _ rfl ?_
      simp (disch:=first|exact dd|fail) only [go_sem,seval]
      refine AAny_free 19 [20,21,22] (by decide +kernel) rfl ?_
      refine AI_at _ rfl ?_
      simp (disch:=first|exact dd|fail) only [go_sem,seval]
      refine AAny_free 20 [21,22] (by decide +kernel) rfl ?_
      refine AI_at _ rfl ?_
      simp (disch:=first|exact dd|fail) only [go_sem,seval]
      refine AAny_free 21 [22] (by decide +kernel) rfl ?_
      refine AI_at _ rfl ?_
      simp (disch:=first|exact dd|fail) only [go_sem,seval]
      refine AAny_free 22 [] (by decide +kernel) rfl ?_
      refine AI_at _ rfl ?_
      simp (disch:=first|exact dd|fail) only [go_sem,seval]
      refine AAny_end ?_
      simp (disch:=first|exact dd|fail) only [go_sem,seval]
      refine ⟨i + 1,hyes,by show c.T.length - (i + 1) < c.T.length - i;omega, ?_, ?_⟩
      · simp (disch:=first|exact dd|fail) only [go_sem,seval,tlD]
        try exact LeV.refl _
      · simp (disch:=first|exact dd|fail) only [go_sem,seval,fkX,clD,esD,tlD]
        exact ⟨fun j hj => hql j hj,fun j hj => hel3 j hj⟩
    refine forall_one ?_
    refine AI_at _ rfl ?_
    simp (disch:=first|exact dd|fail) only [go_sem,seval]
    refine AAny_stab 12 [9,13,16,17,18,19,20,21,22] (by decide +kernel) rfl (by simp (disch:=first|exact dd|fail) only [go_sem,seval,stab,isVarB,blks,blkss,Op.operands,Call.operands,List.toList_toArray,Array.toList_append,List.all_cons,List.all_nil,Option.isNone_none]) ?_
    refine AI_at _ rfl ?_
    simp (disch:=first|exact dd|fail) only [go_sem,seval]
    refine AAny_stab 13 [9,16,17,18,19,20,21,22] (by decide +kernel) rfl (by simp (disch:=first|exact dd|fail) only [go_sem,seval,stab,isVarB,blks,blkss,Op.operands,Call.operands,List.toList_toArray,Array.toList_append,List.all_cons,List.all_nil,Option.isNone_none]) ?_
    refine AI_at _ rfl ?_
    simp (disch:=first|exact dd|fail) only [go_sem,seval]
    refine AAny_free 9 [16,17,18,19,20,21,22] (by decide +kernel) rfl ?_
    refine AI_at _ rfl ?_
    simp (disch:=first|exact dd|fail) only [go_sem,seval]
    refine ⟨.inl trivial, .inr trivial,by omega,by omega, ?_⟩
    refine AAny_free 16 [17,18,19,20,21,22] (by decide +kernel) rfl ?_
    refine AI_at _ rfl ?_
    simp (disch:=first|exact dd|fail) only [go_sem,seval]
    refine ⟨.inl trivial, .inr trivial,by omega,by omega, ?_⟩
    refine AAny_free 17 [18,19,20,21,22] (by decide +kernel) rfl ?_
    refine AI_at _ rfl ?_
    simp (disch:=first|exact dd|fail) only [go_sem,seval]
    refine AAny_free 18 [19,20,21,22] (by decide +kernel) rfl ?_
    refine AI_at _ rfl ?_
    simp (disch:=first|exact dd|fail) only [go_sem,seval]
    refine AAny_free 19 [20,21,22] (by decide +kernel) rfl ?_
    refine AI_at _ rfl ?_
    simp (disch:=first|exact dd|fail) only [go_sem,seval]
    refine AAny_free 20 [21,22] (by decide +kernel) rfl ?_
    refine AI_at _ rfl ?_
    simp (disch:=first|exact dd|fail) only [go_sem,seval]
    refine AAny_free 21 [22] (by decide +kernel) rfl ?_
    refine AI_at _ rfl ?_
    simp (disch:=first|exact dd|fail) only [go_sem,seval]
    refine AAny_free 22 [] (by decide +kernel) rfl ?_
    refine AI_at _ rfl ?_
    simp (disch:=first|exact dd|fail) only [go_sem,seval]
    refine AAny_end ?_
    simp (disch:=first|exact dd|fail) only [go_sem,seval]
    refine ⟨i + 1,hyes,by show c.T.length - (i + 1) < c.T.length - i;omega, ?_, ?_⟩
    · simp (disch:=first|exact dd|fail) only [go_sem,seval,tlD]
      try exact LeV.refl _
    · simp (disch:=first|exact dd|fail) only [go_sem,seval,fkX,clD,esD,tlD]
      exact ⟨fun j hj => hql j hj,fun j hj => hel3 j hj⟩
end Go.Proofs.YtakaojkfipnfcaaGreatDoor.Lv
