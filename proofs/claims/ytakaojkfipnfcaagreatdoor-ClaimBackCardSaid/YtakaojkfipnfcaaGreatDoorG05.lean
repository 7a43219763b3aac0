/- The abstract machine: contracts and calls. -/
import Derived.Test.YtakaojkfipnfcaaGreatDoorG04
import Derived.OrdersIn
set_option linter.unusedVariables false
set_option linter.unusedSimpArgs false
set_option maxRecDepth 100000
set_option maxHeartbeats 4000000
namespace Go.Proofs.YtakaojkfipnfcaaGreatDoor.Lv
open Go Go.RowKit
def fnOk (P : Program) (f : FuncId) : Bool:=match P.funcs[f]? with
  | some fn => fn.body.isSome && !(fn.name == "runtime.NumGoroutine")
  | none => false
def GOK (E : Ctx) (S : Nat → Prop) (w : World) : Prop:=∀ g,Rep0 S w (E.gv g) (.pointer (some ⟨g,0,none⟩))
def GB (h : Hp) (φ : Ph) (c : Nat) : Prop:=∃ b x t,lookB h b = some x ∧ φ b = some (c,t)
def CG (E : Ctx) (f : FuncId) (args : List D) (h : Hp) (d : D) (h' : Hp) : Prop:=
  fnOk E.P f = true ∧ ∀ (S : Nat → Prop) (w : World) (vs : List Value) (φ : Ph),(∀ b,S b → b < w.heap.size) → GOK E S w → HpAt h φ S w → (∀ c,GB h φ c → c < w.heap.size ∧ ¬ S c) → RepVs h φ S w args vs →
    Calls E.P f ⟨vs⟩ w (fun e w' => ∃ v S' φ',e = .returned v ∧ RepV h' φ' S' w' d v ∧ HpAt h' φ' S' w' ∧ HpExt h φ h' φ' ∧ (∀ c,GB h' φ' c → c < w'.heap.size ∧ (w.heap.size ≤ c ∨ GB h φ c)) ∧ Trod (GB h φ) w w' ∧
      (∀ b,S b → S' b) ∧ (∀ b,S' b → b < w'.heap.size) ∧ ∀ b,S' b → b < w.heap.size → S b ∨ GB h φ b)
abbrev C (E : Ctx) (f : FuncId) (args : List D) (d : D) : Prop:=CG E f args [] d []
def KP (K : St → Prop) (s : St) (dst : Option Nat) (d : D) : Prop:=K (s.put dst d)
def KT (K : St → Prop) (dst : Option Nat) (d : D) (s : St) : Prop:=K (s.put dst d)
def ork (x : Option D) (K : D → Prop) (F : Prop) : Prop:=match x with
  | some d => K d
  | none => F
def fsOf (s : St) (bs : List Nat) (ds : List D) : List Nat:=refss (pos bs) ds ++ bs.flatMap fun b => refB (pos bs) (lookB s.h b)
def aft (s : St) (bs fs : List Nat) (h' : Hp) : St:=⟨s.e,mrg (ex bs s.nx) bs.length h' (frz fs s.h),s.nx + mx h'⟩
def CallX0 (E : Ctx) (g : FuncId) (ds : List D) (K : St → Prop) (s : St) (dst : Option Nat) : Prop:=
  ∃ bs d h',(E.give g = true ∨ bs = []) ∧ givOk s.h bs = true ∧ CG E g (imps (pos bs) s.h ds) (impH (pos bs) s.h bs 0) d h' ∧ K ((aft s bs (if flat d && h'.isEmpty then [] else fsOf s bs ds) h').put dst (exD (ex bs s.nx) d))
def flatB (h : Hp) (bs : List Nat) : Bool:=bs.all fun b => match lookB h b with
  | some (.var _ _ d _) => flat d
  | _ => false
def CallR (E : Ctx) (g : FuncId) (ds : List D) (K : St → Prop) (s : St) (dst : Option Nat) : Prop:=
  ∃ bs d,givOk s.h bs = true ∧ flatB s.h bs = true ∧ flat d = true ∧ CG E g (imps (pos bs) s.h ds) (impH (pos bs) s.h bs 0) d (impH (pos bs) s.h bs 0) ∧ K (s.put dst d)
def IdFn (P : Program) (g : FuncId) : Prop:=∃ fn,P.funcs[g]? = some fn ∧ (fn.name == "runtime.NumGoroutine") = false ∧ fn.body.isNone = true ∧ Extern.findNext fn = none ∧ Extern.find fn = some Extern.AbiNoEscape.same
def CallI (E : Ctx) (g : FuncId) (ds : List D) (K : St → Prop) (s : St) (dst : Option Nat) : Prop:=IdFn E.P g ∧ ∃ d,ds = [d] ∧ K (s.put dst d)
def CallX (E : Ctx) (g : FuncId) (ds : List D) (K : St → Prop) (s : St) (dst : Option Nat) : Prop:=CallX0 E g ds K s dst ∨ CallR E g ds K s dst ∨ CallI E g ds K s dst
def AX (E : Ctx) (o : Oper) (K : St → Prop) (s : St) : Prop:=match o.op with
  | .call { callee:=.value f,args:=⟨xs⟩, .. } => match ev E s f with
    | .fn g cap => CallX E g (xs.map (ev E s) ++ cap) K s o.dst
    | _ => False
  | op => ork (pv E s op) (KP K s o.dst) (ef E s op (KT K o.dst))
def gd (d : D) (want : Bool) (A B : Prop) : Prop:=match d with
  | .bool b => (b = want → A) ∧ (b ≠ want → B)
  | .tup _ => B
  | _ => False
def AT (E : Ctx) (all : Array Oper) (o : Oper) (K : St → Prop) (s : St) : Prop:=match o.guard with
  | none => AX E o K s
  | some (g,want) => match (all[g]?).bind (·.dst) with
    | some t => gd (s.e t) want (AX E o K s) (K (s.put o.dst (.tup [])))
    | none => False
def AR (E : Ctx) (all : Array Oper) : List Oper → (St → Prop) → St → Prop
  | [],K,s => K s
  | o :: os,K,s => AT E all o (AR E all os K) s
section
variable {E : Ctx} {B : Base} {s : St} {φ : Ph} {S : Nat → Prop} {a : Act} {w : World}
theorem Rel.ev (hr : Rel B s φ S a w) (hg : GOK E S w) (x : Operand) : RepV s.h φ S w (Lv.ev E s x) (a.eval x):=by
  cases x with
  | tmp t => simpa [Lv.ev,Act.eval] using hr.env t
  | const v => exact Rep0.toV _ _ (ofVal_rep v)
  | global g => exact Rep0.toV _ _ (hg g)
  | func f => simp [Lv.ev,Act.eval,RepV,RepVs]
theorem GOK.mono (hg : GOK E S w) {S' : Nat → Prop} {w' : World} (hk : Kept S w w') (hs : ∀ b,S b → S' b) : GOK E S' w':=fun g => Rep0.mono hk hs _ _ (hg g)
mutual
theorem flat_rep {S S' : Nat → Prop} {w : World} : ∀ (d : D) (v : Value),Rep0 S' w d v → flat d = true → Rep0 S w d v
  | .int ..,_,h,_ | .bool ..,_,h,_ | .str ..,_,h,_ | .nilp,_,h,_ | .nils,_,h,_ | .nilm,_,h,_ | .nilf,_,h,_ | .gl ..,_,h,_ | .unk,_,h,_ => by simp_all [Rep0]
  | .ro ..,_,_,h | .ra ..,_,_,h | .sl ..,_,_,h | .ad ..,_,_,h | .el ..,_,_,h | .vs ..,_,_,h => by simp [flat] at h
  | .agg cs,v,h,hc => by
    simp only [Rep0,flat] at h hc ⊢
    obtain ⟨vs,e,h⟩:=h
    exact ⟨vs,e,flats_rep cs vs h hc⟩
  | .tup cs,v,h,hc => by
    simp only [Rep0,flat] at h hc ⊢
    obtain ⟨vs,e,h⟩:=h
    exact ⟨vs,e,flats_rep cs vs h hc⟩
  | .fn f cs,v,h,hc => by
    simp only [Rep0,flat] at h hc ⊢
    obtain ⟨vs,e,h⟩:=h
    exact ⟨vs,e,flats_rep cs vs h hc⟩
theorem flats_rep {S S' : Nat → Prop} {w : World} : ∀ (ds : List D) (vs : List Value),Rep0s S' w ds vs → flats ds = true → Rep0s S w ds vs
  | [],vs,h,_ => by simpa [Rep0s] using h
  | d :: ds,vs,h,hc => by
    simp only [Rep0s,flats,Bool.and_eq_true] at h hc ⊢
    obtain ⟨v,vs',e,h1,h2⟩:=h
    exact ⟨v,vs',e,flat_rep d v h1 hc.1,flats_rep ds vs' h2 hc.2⟩
end
mutual
theorem flat_cl : ∀ (d : D),flat d = true → cl d = true ∧ ∀ r,exD r d = d
  | .int ..,h | .bool ..,h | .str ..,h | .nilp,h | .nils,h | .nilm,h | .nilf,h | .gl ..,h | .unk,h => ⟨rfl,fun _ => rfl⟩
  | .ro ..,h | .ra ..,h | .sl ..,h | .ad ..,h | .el ..,h | .vs ..,h => by simp [flat] at h
  | .agg cs,h => by
    simp only [flat,cl,exD] at h ⊢
    exact ⟨(flats_cl cs h).1,fun r => by rw [(flats_cl cs h).2]⟩
  | .tup cs,h => by
    simp only [flat,cl,exD] at h ⊢
    exact ⟨(flats_cl cs h).1,fun r => by rw [(flats_cl cs h).2]⟩
  | .fn f cs,h => by
    simp only [flat,cl,exD] at h ⊢
    exact ⟨(flats_cl cs h).1,fun r => by rw [(flats_cl cs h).2]⟩
theorem flats_cl : ∀ (ds : List D),flats ds = true → cls ds = true ∧ ∀ r,exDs r ds = ds
  | [],_ => ⟨rfl,fun _ => rfl⟩
  | d :: ds,h => by
    simp only [flats,cls,exDs,Bool.and_eq_true] at h ⊢
    exact ⟨⟨(flat_cl d h.1).1,(flats_cl ds h.2).1⟩,fun r => by rw [(flat_cl d h.1).2,(flats_cl ds h.2).2]⟩
end
def Live (B : Base) (s : St) : Prop:=∃ φ S a w,Rel B s φ S a w
def BOK (E : Ctx) (B : Base) : Prop:=GOK E B.S0 B.w0 ∧ ∀ b,B.S0 b → b < B.w0.heap.size ∧ ¬ B.G b
theorem BOK.gok (hB : BOK E B) (hr : Rel B s φ S a w) : GOK E S w:=hB.1.mono (fun b h => hr.below.block b (hB.2 b h).1 (hB.2 b h).2) hr.s0
theorem pos_spec : ∀ {bs : List Nat} {b i : Nat},pos bs b = some i → bs[i]? = some b
  | x :: r,b,i,h => by
    simp only [pos] at h
    split at h
    · rename_i e;cases h;subst e;rfl
    · obtain ⟨j,hj,rfl⟩:=Option.map_eq_some_iff.1 h
      simpa using pos_spec hj
theorem pos_mem : ∀ {bs : List Nat} {b : Nat},b ∈ bs → ∃ i,pos bs b = some i
  | x :: r,b,h => by
    simp only [pos]
    split
    · exact ⟨0,rfl⟩
    · rename_i e
      obtain ⟨i,hi⟩:=pos_mem (List.mem_of_ne_of_mem e h)
      exact ⟨i + 1,by rw [hi];rfl⟩
theorem giv_spec {h : Hp} : ∀ {bs : List Nat},givOk h bs = true → bs.Nodup ∧ ∀ b ∈ bs,∃ x,lookB h b = some x ∧ (∀ fz ver ag sz n f ty,x = .row fz ver ag sz n f ty → fz = false)
  | [],_ => ⟨List.nodup_nil,fun _ h => by cases h⟩
  | b :: r,h' => by
    simp only [givOk,Bool.and_eq_true,Bool.not_eq_true'] at h'
    obtain ⟨⟨h1,h2⟩,h3⟩:=h'
    obtain ⟨h4,h5⟩:=giv_spec h3
    refine ⟨List.nodup_cons.2 ⟨by simpa using h2,h4⟩,fun b' hb' => ?_⟩
    rcases List.mem_cons.1 hb' with rfl | hb'
    · split at h1
      · rename_i fz ver ag sz n f ty hl
        exact ⟨_,hl,fun _ _ _ _ _ _ _ e => by cases e;simpa using h1⟩
      · rename_i hl;exact ⟨_,hl,fun _ _ _ _ _ _ _ e => by cases e⟩
      · cases h1
    · exact h5 b' hb'
theorem impH_look {ρ : Nat → Option Nat} {h : Hp} : ∀ (bs : List Nat) (k j : Nat),(∀ b ∈ bs,∃ x,lookB h b = some x) → lookB (impH ρ h bs k) j = if k ≤ j then (bs[j - k]?).bind fun b => (lookB h b).map (impB ρ h) else none
  | [],k,j,_ => by simp [impH,lookB]
  | b :: r,k,j,hb => by
    obtain ⟨x,hx⟩:=hb b (by simp)
    simp only [impH,hx,lookB]
    rw [impH_look r (k + 1) j fun b' h' => hb b' (List.mem_cons_of_mem _ h')]
    by_cases e : j = k
    · subst e;simp [hx]
    · rw [if_neg e]
      by_cases hk : k ≤ j
      · rw [if_pos hk,if_pos (by omega),show j - k = (j - (k + 1)) + 1 by omega,List.getElem?_cons_succ]
      · rw [if_neg hk,if_neg (by omega)]
theorem BlkAt.move {H H' : Hp} {φ φ' : Ph} {S S' : Nat → Prop} {w w' : World} (hx : HpExt H φ H' φ') (hk : Kept S w w') (hs : ∀ b,S b → S' b) {b : Nat} (hph : φ' b = φ b) (hw : ∀ c t,φ b = some (c,t) → w'.heap[c]? = w.heap[c]?) (hn : ∀ c t,φ b = some (c,t) → S' c → S c) :
    ∀ {x : Blk},BlkAt H φ S w b x → BlkAt H' φ' S' w' b x
  | .var ag sz d ty,h => by
    obtain ⟨c,t,h1,h2,x,vs,e,lo,hi,h3,h4,h5,h6,h7⟩:=h
    exact ⟨c,t,hph.trans h1,fun h => h2 (hn c t h1 h),x,vs,e,lo,hi,(hw c t h1).trans h3,h4,h5,h6,RepV.mono hx hk hs _ _ h7.1,h7.2⟩
  | .row fz ver ag sz n f ty,h => by
    refine ⟨fun e => h.1 (hph.symm.trans e),fun c tot e => ?_⟩
    have e':=hph.symm.trans e
    obtain ⟨h1,h2,h3,h4,vs,ty,lo,hi,h5,h6,h7,h8,h9⟩:=h.2 c tot e'
    refine ⟨fun hf h => h1 hf (hn c tot e' h),fun hf => hs c (h2 hf),h3,h4,vs,ty,lo,hi,(hw c tot e').trans h5,h6,h7,fun i hi => ?_,h9⟩
    obtain ⟨x,g1,g2⟩:=h8 i hi
    exact ⟨x,g1,Rep0.mono hk hs _ _ g2⟩
theorem frz_nil : ∀ h : Hp,frz [] h = h
  | [] => rfl
  | (b, .var ag sz d ty) :: r => by simp [frz,frz_nil r]
  | (b, .row fz ver ag sz n f ty) :: r => by simp [frz,frz_nil r]
mutual
theorem repv_nil {φ : Ph} : ∀ (d : D) (v : Value),RepV [] φ S w d v → Rep0 S w d v
  | .int ..,_,h | .bool ..,_,h | .str ..,_,h | .nilp,_,h | .nils,_,h | .nilm,_,h | .nilf,_,h | .gl ..,_,h | .unk,_,h | .ro ..,_,h | .ra ..,_,h => by simpa only [RepV] using h
  | .sl ..,_,h => by simp only [RepV,lookB] at h;obtain ⟨_,_,_,_,_,_,_,e,_⟩:=h;cases e
  | .el ..,_,h => by simp only [RepV,lookB] at h;obtain ⟨_,_,_,_,_,_,_,e,_⟩:=h;cases e
  | .vs ..,_,h => by simp only [RepV,lookB] at h;obtain ⟨_,_,_,_,_,_,_,_,e,_⟩:=h;cases e
  | .ad ..,_,h => by simp only [RepV,lookB] at h;obtain ⟨_,_,_,_,_,_,e,_⟩:=h;cases e
  | .agg cs,v,h => by
    simp only [RepV,Rep0] at h ⊢
    obtain ⟨vs,e,h⟩:=h
    exact ⟨vs,e,repvs_nil cs vs h⟩
  | .tup cs,v,h => by
    simp only [RepV,Rep0] at h ⊢
    obtain ⟨vs,e,h⟩:=h
    exact ⟨vs,e,repvs_nil cs vs h⟩
  | .fn f cs,v,h => by
    simp only [RepV,Rep0] at h ⊢
    obtain ⟨vs,e,h⟩:=h
    exact ⟨vs,e,repvs_nil cs vs h⟩
theorem repvs_nil {φ : Ph} : ∀ (ds : List D) (vs : List Value),RepVs [] φ S w ds vs → Rep0s S w ds vs
  | [],vs,h => by simpa only [RepVs,Rep0s] using h
  | d :: ds,vs,h => by
    simp only [RepVs,Rep0s] at h ⊢
    obtain ⟨v,vs',e,h1,h2⟩:=h
    exact ⟨v,vs',e,repv_nil d v h1,repvs_nil ds vs' h2⟩
end
mutual
theorem refs_none' (ρ : Nat → Option Nat) : ∀ (d : D) (b : Nat),b ∈ refs ρ d → ρ b = none
  | .int ..,b,h | .bool ..,b,h | .str ..,b,h | .nilp,b,h | .nils,b,h | .nilm,b,h | .nilf,b,h | .gl ..,b,h | .unk,b,h | .ro ..,b,h | .ra ..,b,h | .ad ..,b,h | .el ..,b,h | .vs ..,b,h => by simp [refs] at h
  | .sl b' ver off n,b,h => by
    simp only [refs] at h
    split at h
    · cases h
    · rename_i e
      rw [List.mem_singleton.1 h,e]
  | .agg cs,b,h => by simp only [refs] at h;exact refss_none' ρ cs b h
  | .tup cs,b,h => by simp only [refs] at h;exact refss_none' ρ cs b h
  | .fn f cs,b,h => by simp only [refs] at h;exact refss_none' ρ cs b h
theorem refss_none' (ρ : Nat → Option Nat) : ∀ (ds : List D) (b : Nat),b ∈ refss ρ ds → ρ b = none
  | [],b,h => by simp [refss] at h
  | d :: ds,b,h => by
    simp only [refss,List.mem_append] at h
    rcases h with h | h
    · exact refs_none' ρ d b h
    · exact refss_none' ρ ds b h
end
theorem refs_none (ρ : Nat → Option Nat) : (∀ d b,b ∈ refs ρ d → ρ b = none) ∧ ∀ ds b,b ∈ refss ρ ds → ρ b = none:=⟨refs_none' ρ,refss_none' ρ⟩
theorem CallX0_sound (hB : BOK E B) (hr : Rel B s φ S a w) {g : FuncId} {ds : List D} {vs : List Value} (hds : RepVs s.h φ S w ds vs) {dst : Option Nat} (hd : ∀ t,dst = some t → t < B.N) {K : St → Prop} (h : CallX0 E g ds K s dst) :
    fnOk E.P g = true ∧ Calls E.P g ⟨vs⟩ w fun e w' => ∃ v s' φ' S',e = .returned v ∧ Rel B s' φ' S' (a.put dst v) w' ∧ K s':=by
  obtain ⟨bs,d,h',_,hgiv,hC,hK⟩:=h
  refine ⟨hC.1, ?_⟩
  obtain ⟨hnd,hbs⟩:=giv_spec hgiv
  let F:=fsOf s bs ds
  let Hin:=impH (pos bs) s.h bs 0
  let φin : Ph:=fun i => (bs[i]?).bind φ
  have hHin : ∀ i,lookB Hin i = (bs[i]?).bind fun b => (lookB s.h b).map (impB (pos bs) s.h):=fun i => by
    show lookB (impH (pos bs) s.h bs 0) i = _
    rw [impH_look bs 0 i fun b hb => let ⟨x,hx,_⟩:=hbs b hb;⟨x,hx⟩]
    simp
  have hρ : ∀ b i,pos bs b = some i → ∀ x,lookB s.h b = some x → lookB Hin i = some (impB (pos bs) s.h x) ∧ φin i = φ b:=fun b i hi x hx => by
    have:=pos_spec hi
    exact ⟨by rw [hHin,this];simp [hx],by show (bs[i]?).bind φ = φ b;rw [this];rfl⟩
  have hback : ∀ i y,lookB Hin i = some y → ∃ b x,pos bs b = some i ∧ lookB s.h b = some x ∧ y = impB (pos bs) s.h x:=fun i y hy => by
    rw [hHin] at hy
    cases hb : bs[i]? with
    | none => rw [hb] at hy;cases hy
    | some b =>
      rw [hb] at hy
      obtain ⟨x,hx,rfl⟩:=Option.map_eq_some_iff.1 (by simpa using hy)
      obtain ⟨j,hj⟩:=pos_mem (List.mem_of_getElem? hb)
      have h1:=pos_spec hj
      obtain ⟨l1,e1⟩:=List.getElem?_eq_some_iff.1 h1
      obtain ⟨l2,e2⟩:=List.getElem?_eq_some_iff.1 hb
      have : j = i:=(List.getElem_inj hnd).1 (e1.trans e2.symm)
      subst this
      exact ⟨b,x,hj,hx,rfl⟩
  have hposnone : ∀ b,(pos bs b = none) ∨ b ∈ bs:=fun b => by
    cases hb : pos bs b with
    | none => exact .inl rfl
    | some i => exact .inr (List.mem_of_getElem? (pos_spec hb))
  have hfsn : (∀ ρ : Nat → Option Nat,(∀ d b,b ∈ refs ρ d → ρ b = none) ∧ ∀ ds b,b ∈ refss ρ ds → ρ b = none):=fun ρ => refs_none ρ
  have hF : ∀ b,b ∈ F → pos bs b = none:=fun b hb => by
    rcases List.mem_append.1 hb with hb | hb
    · exact (hfsn _).2 _ _ hb
    · obtain ⟨b',hb',hb⟩:=List.mem_flatMap.1 hb
      unfold refB at hb
      split at hb
      · exact (hfsn _).1 _ _ hb
      · cases hb
  have hrf : ∀ b i ag sz d ty,pos bs b = some i → lookB s.h b = some (.var ag sz d ty) → ∀ b',b' ∈ refs (pos bs) d → b' ∈ F:=fun b i ag sz d ty hi hl b' hb' =>
    List.mem_append_right _ (List.mem_flatMap.2 ⟨b,List.mem_of_getElem? (pos_spec hi),by simp [refB,hl,hb']⟩)
  have hhp : HpAt Hin φin (Fz s.h φ S F) w:=imp_hp hr.hp hρ hback hF hrf
  have hargs:=imps_rep (fs:=F) hr.hp hρ ds vs hds fun b hb => List.mem_append_left _ hb
  have hrz:=hr.frz F
  have hGBold : ∀ c,GB Hin φin c → ∃ b i x t,pos bs b = some i ∧ lookB s.h b = some x ∧ φ b = some (c,t):=fun c ⟨i,y,t,h1,h2⟩ => by
    obtain ⟨b,x,h3,h4,rfl⟩:=hback i y h1
    exact ⟨b,i,x,t,h3,h4,(hρ b i h3 x h4).2.symm.trans h2⟩
  have hGB : ∀ c,GB Hin φin c → c < w.heap.size ∧ ¬ Fz s.h φ S F c:=fun c hc => by
    obtain ⟨b,i,x,t,h1,h2,h3⟩:=hGBold c hc
    refine ⟨hr.plt b x c t h2 h3, ?_⟩
    obtain ⟨h4,h5⟩:=hρ b i h1 x h2
    have hblk:=hhp.blk i _ h4
    obtain ⟨x',hx',hfz⟩:=hbs b (List.mem_of_getElem? (pos_spec h1))
    rw [h2] at hx'
    cases hx'
    cases x with
    | var ag sz d =>
      obtain ⟨c',t',g1,g2,_⟩:=hblk
      rw [h5,h3] at g1
      cases g1
      exact g2
    | row fz ver ag sz n f tyr => exact (hblk.2 c t (h5.trans h3)).1 (hfz _ _ _ _ _ _ _ rfl)
  refine Calls.mono (hC.2 _ w _ φin hrz.slt ((hB.gok hr).mono (fun _ _ => rfl) fun _ h => .inl h) hhp hGB hargs) ?_
  rintro e w' ⟨v,S',φ',he,p1,p2,p3,p4,p5,p6,p7,p8⟩
  by_cases hfl : (flat d && h'.isEmpty) = true
  · rw [if_pos hfl] at hK
    simp only [Bool.and_eq_true,List.isEmpty_iff] at hfl
    obtain ⟨hfl,rfl⟩:=hfl
    have hnb : bs = []:=by
      cases bs with
      | nil => rfl
      | cons b r =>
        exfalso
        obtain ⟨x,hx,_⟩:=hbs b (by simp)
        obtain ⟨h1,_⟩:=hρ b 0 (by simp [pos]) x hx
        cases x with
        | var ag sz d => obtain ⟨⟨_,e⟩,_⟩:=(p3 0).1 _ _ _ _ h1;cases e
        | row fz ver ag sz n f tyr => obtain ⟨_,_,_,_,_,e,_⟩:=(p3 0).2 _ _ _ _ _ _ _ h1;cases e
    subst hnb
    have hnoGB : ∀ c,¬ GB Hin φin c:=fun c hc => by
      obtain ⟨b,i,x,t,h1,_⟩:=hGBold c hc
      cases h1
    have hbel : Below w.heap.size w w':=⟨p5.os,p5.tape,p5.output,p5.size,fun k hk => p5.block k hk (hnoGB k)⟩
    have hr':=hr.later hbel (fun _ h => h) (fun b h => Nat.lt_of_lt_of_le (hr.slt b h) p5.size) (fun _ h _ => h)
    have e1 : aft s [] [] [] = s:=by simp [aft,mrg,frz_nil,mx]
    rw [e1,(flat_cl d hfl).2] at hK
    exact ⟨v,_,φ,S,he,hr'.put (Rep0.toV _ _ (flat_rep _ _ (repv_nil _ _ p1) hfl)) hd,hK⟩
  · rw [if_neg hfl] at hK
    let r:=ex bs s.nx
    let Hz:=Lv.frz F s.h
    let H2:=mrg r bs.length h' Hz
    let φ2 : Ph:=fun b => match pos bs b with
      | some i => φ' i
      | none => if s.nx ≤ b then φ' (b - s.nx) else φ b
    have hlt : ∀ b,b ∈ bs → b < s.nx:=fun b hb => let ⟨x,hx,_⟩:=hbs b hb;hr.nx b x hx
    have r1 : ∀ i (hi : i < bs.length),r i = bs[i]:=fun i hi => by simp [r,ex,hi]
    have r2 : ∀ i,bs.length ≤ i → r i = s.nx + i:=fun i hi => by simp only [r,ex];rw [if_neg (by omega)]
    have rinj : ∀ i j,r i = r j → i = j:=fun i j e => by
      by_cases hi : i < bs.length <;> by_cases hj : j < bs.length
      · rw [r1 i hi,r1 j hj] at e;exact (List.getElem_inj hnd).1 e
      · rw [r1 i hi,r2 j (by omega)] at e
        have:=hlt _ (List.getElem_mem hi)
        omega
      · rw [r2 i (by omega),r1 j hj] at e
        have:=hlt _ (List.getElem_mem hj)
        omega
      · rw [r2 i (by omega),r2 j (by omega)] at e;omega
    have pr : ∀ i (hi : i < bs.length),pos bs bs[i] = some i:=fun i hi => by
      obtain ⟨j,hj⟩:=pos_mem (List.getElem_mem hi)
      obtain ⟨l1,e1⟩:=List.getElem?_eq_some_iff.1 (pos_spec hj)
      have : j = i:=(List.getElem_inj hnd).1 e1
      rw [hj,this]
    have f3 : ∀ i,φ2 (r i) = φ' i:=fun i => by
      by_cases hi : i < bs.length
      · simp only [φ2,r1 i hi,pr i hi]
      · have hn : pos bs (s.nx + i) = none:=(hposnone _).resolve_right fun hm => by have:=hlt _ hm;omega
        simp only [φ2,r2 i (by omega),hn]
        rw [if_pos (by omega)]
        congr 1
        omega
    have hzs : ∀ b x,lookB s.h b = some x → ∃ y,lookB Hz b = some y:=fun b x hx => by
      show ∃ y,lookB (Lv.frz F s.h) b = some y
      rw [lookB_frz,hx]
      cases x <;> exact ⟨_,rfl⟩
    have hsz : ∀ b y,lookB Hz b = some y → ∃ x,lookB s.h b = some x:=fun b y hy => by
      have hy' : lookB (Lv.frz F s.h) b = some y:=hy
      rw [lookB_frz] at hy'
      cases hx : lookB s.h b with
      | none => rw [hx] at hy';cases hy'
      | some x => exact ⟨x,rfl⟩
    have f4 : ∀ i y,lookB h' i = some y → lookB H2 (r i) = some (exB r y):=mrg_in rinj h' Hz fun i hi => by
      obtain ⟨x,hx,_⟩:=hbs _ (List.getElem_mem hi)
      obtain ⟨y,hy⟩:=hzs _ x hx
      rw [r1 i hi,hy]
      rfl
    have hinh : ∀ b i,pos bs b = some i → ∃ y,lookB h' i = some y:=fun b i hi => by
      obtain ⟨x,hx,_⟩:=hbs b (List.mem_of_getElem? (pos_spec hi))
      obtain ⟨h1,_⟩:=hρ b i hi x hx
      cases x with
      | var ag sz d => obtain ⟨⟨_,e⟩,_⟩:=(p3 i).1 _ _ _ _ h1;exact ⟨_,e⟩
      | row fz ver ag sz n f tyr => obtain ⟨_,_,_,_,_,e,_⟩:=(p3 i).2 _ _ _ _ _ _ _ h1;exact ⟨_,e⟩
    have rb : ∀ b i,pos bs b = some i → r i = b:=fun b i hi => by
      obtain ⟨l1,e1⟩:=List.getElem?_eq_some_iff.1 (pos_spec hi)
      rw [r1 i l1,e1]
    have f5 : ∀ b,pos bs b = none → b < s.nx → lookB H2 b = lookB Hz b ∧ φ2 b = φ b:=fun b hb hlt' => by
      refine ⟨mrg_out h' Hz fun i y hy e => ?_, ?_⟩
      · by_cases hi : i < bs.length
        · rw [r1 i hi] at e
          rw [e,pr i hi] at hb
          cases hb
        · rw [r2 i (by omega)] at e
          omega
      · simp only [φ2,hb]
        rw [if_neg (by omega)]
    have f6 : HpExt Hz φ H2 φ2:=fun b => by
      cases hb : pos bs b with
      | none =>
        refine ⟨fun ag sz d ty hl => ?_,fun fz ver ag sz m f ty hl => ?_⟩
        · obtain ⟨x,hx⟩:=hsz b _ hl
          obtain ⟨e1,e2⟩:=f5 b hb (hr.nx b x hx)
          exact ⟨⟨d,e1.trans hl⟩,e2⟩
        · obtain ⟨x,hx⟩:=hsz b _ hl
          obtain ⟨e1,e2⟩:=f5 b hb (hr.nx b x hx)
          exact ⟨fz,ver,m,f,ty,e1.trans hl,Nat.le_refl _,fun _ => ⟨Nat.le_refl _,e2⟩⟩
      | some i =>
        have e0:=rb b i hb
        have e3 : φ2 b = φ' i:=by rw [← e0];exact f3 i
        refine ⟨fun ag sz d ty hl => ?_,fun fz ver ag sz m f ty hl => ?_⟩
        · obtain ⟨x,hx⟩:=hsz b _ hl
          have hl' : lookB (Lv.frz F s.h) b = _:=hl
          rw [lookB_frz,hx] at hl'
          cases x with
          | row => cases hl'
          | var ag' sz' d' =>
            cases hl'
            obtain ⟨h1,h2⟩:=hρ b i hb _ hx
            obtain ⟨⟨d'',e1⟩,e2⟩:=(p3 i).1 _ _ _ _ h1
            refine ⟨⟨exD r d'', ?_⟩,(e3.trans e2).trans h2⟩
            rw [← e0]
            exact f4 i _ e1
        · obtain ⟨x,hx⟩:=hsz b _ hl
          have hl' : lookB (Lv.frz F s.h) b = _:=hl
          rw [lookB_frz,hx] at hl'
          cases x with
          | var => cases hl'
          | row fz' ver' ag' sz' m' f' tyr' =>
            cases hl'
            obtain ⟨h1,h2⟩:=hρ b i hb _ hx
            obtain ⟨fz2,ver2,m2,f2,ty2,e1,e2,e4⟩:=(p3 i).2 _ _ _ _ _ _ _ h1
            refine ⟨fz2,ver2,m2,f2,ty2, ?_,e2,fun e => ⟨(e4 e).1,(e3.trans (e4 e).2).trans h2⟩⟩
            rw [← e0]
            exact f4 i _ e1
    have f7 : HpExt s.h φ H2 φ2:=(frz_ext F s.h φ).trans f6
    have hk1 : Kept (Fz s.h φ S F) w w':=fun b hb => p5.block b (hrz.slt b hb) fun hG => (hGB b hG).2 hb
    have hsS : ∀ b,S b → S' b:=fun b hb => p6 b (.inl hb)
    have hframe : ∀ b x c t,lookB s.h b = some x → pos bs b = none → φ b = some (c,t) → c < w.heap.size ∧ ¬ GB Hin φin c:=fun b x c t hl hb hp => by
      refine ⟨hr.plt b x c t hl hp,fun hG => ?_⟩
      obtain ⟨b',i,x',t',h1,h2,h3⟩:=hGBold c hG
      obtain rfl:=hr.hp.inj b b' x x' c t t' hl h2 hp h3
      rw [hb] at h1
      cases h1
    have hcase : ∀ b x,lookB H2 b = some x → (∃ i y,lookB h' i = some y ∧ b = r i ∧ x = exB r y) ∨ (pos bs b = none ∧ lookB Hz b = some x ∧ b < s.nx ∧ φ2 b = φ b ∧ ∃ x',lookB s.h b = some x'):=fun b x hl => by
      by_cases hi : ∃ i y,lookB h' i = some y ∧ b = r i
      · obtain ⟨i,y,h1,rfl⟩:=hi
        have:=f4 i y h1
        rw [hl] at this
        exact .inl ⟨i,y,h1,rfl,Option.some.inj this⟩
      · have e:=mrg_out (r:=r) (k:=bs.length) (b:=b) h' Hz fun i y h1 e => hi ⟨i,y,h1,e⟩
        have hl' : lookB Hz b = some x:=e.symm.trans hl
        obtain ⟨x',hx'⟩:=hsz b x hl'
        have hb : pos bs b = none:=by
          cases hb : pos bs b with
          | none => rfl
          | some i =>
            obtain ⟨y,hy⟩:=hinh b i hb
            exact (hi ⟨i,y,hy,(rb b i hb).symm⟩).elim
        exact .inr ⟨hb,hl',hr.nx b x' hx',(f5 b hb (hr.nx b x' hx')).2,x',hx'⟩
    have hrel : Rel B ⟨s.e,H2,s.nx + mx h'⟩ φ2 S' a w':=by
      refine ⟨fun i => RepV.mono f7 (fun b hb => hk1 b (.inl hb)) hsS _ _ (hr.env i),hr.size,⟨fun b x hl => ?_,fun b1 b2 x1 x2 c t1 t2 l1 l2 q1 q2 => ?_⟩,fun b x hl => ?_,p7,fun b x c t hl hp => ?_,fun b x c t hl hp => ?_,fun b hb => hsS b (hr.s0 b hb),fun b hb hlt' => ?_, ?_,hr.ext.trans f7 (fun b hb => ?_),Nat.le_trans hr.nx0 (Nat.le_add_right _ _),hr.def0.move fun D hD _ hS ho => ?_⟩
      · rcases hcase b x hl with ⟨i,y,h1,rfl,rfl⟩ | ⟨hb,hl',hlt',hph,x',hx'⟩
        · exact ex_blk (fun i y h => ⟨f4 i y h,f3 i⟩) h1 (p2.blk i y h1)
        · refine BlkAt.move f6 hk1 p6 hph (fun c t hp => ?_) (fun c t hp hS => ?_) (hrz.hp.blk b x hl')
          · obtain ⟨g1,g2⟩:=hframe b x' c t hx' hb hp
            exact p5.block c g1 g2
          · obtain ⟨g1,g2⟩:=hframe b x' c t hx' hb hp
            exact (p8 c hS g1).resolve_right g2
      · have mixed : ∀ i y b x c t t',lookB h' i = some y → pos bs b = none → lookB s.h b = some x → φ' i = some (c,t) → φ b = some (c,t') → False:=fun i y b x c t t' h1 h2 h3 h4 h5 => by
          obtain ⟨g1,g2⟩:=hframe b x c t' h3 h2 h5
          rcases (p4 c ⟨i,y,t,h1,h4⟩).2 with g | g
          · omega
          · exact g2 g
        rcases hcase b1 x1 l1 with ⟨i,y,h1,rfl,rfl⟩ | ⟨hb,hl',hlt',hph,x',hx'⟩
        · rcases hcase b2 x2 l2 with ⟨i',y',h1',rfl,rfl⟩ | ⟨hb',hl'',hlt'',hph',x'',hx''⟩
          · rw [f3] at q1 q2
            rw [p2.inj i i' y y' c t1 t2 h1 h1' q1 q2]
          · rw [f3] at q1
            exact (mixed i y b2 x'' c t1 t2 h1 hb' hx'' q1 (hph'.symm.trans q2)).elim
        · rcases hcase b2 x2 l2 with ⟨i',y',h1',rfl,rfl⟩ | ⟨hb',hl'',hlt'',hph',x'',hx''⟩
          · rw [f3] at q2
            exact (mixed i' y' b1 x' c t2 t1 h1' hb hx' q2 (hph.symm.trans q1)).elim
          · exact hr.hp.inj b1 b2 x' x'' c t1 t2 hx' hx'' (hph.symm.trans q1) (hph'.symm.trans q2)
      · rcases hcase b x hl with ⟨i,y,h1,rfl,rfl⟩ | ⟨hb,hl',hlt',hph,x',hx'⟩
        · show r i < s.nx + mx h'
          by_cases hi : i < bs.length
          · rw [r1 i hi]
            have:=hlt _ (List.getElem_mem hi)
            omega
          · rw [r2 i (by omega)]
            have:=mx_lt h1
            omega
        · show b < s.nx + mx h'
          omega
      · rcases hcase b x hl with ⟨i,y,h1,rfl,rfl⟩ | ⟨hb,hl',hlt',hph,x',hx'⟩
        · rw [f3] at hp
          exact (p4 c ⟨i,y,t,h1,hp⟩).1
        · exact Nat.lt_of_lt_of_le (hr.plt b x' c t hx' (hph.symm.trans hp)) p5.size
      · rcases hcase b x hl with ⟨i,y,h1,rfl,rfl⟩ | ⟨hb,hl',hlt',hph,x',hx'⟩
        · rw [f3] at hp
          rcases (p4 c ⟨i,y,t,h1,hp⟩).2 with g | g
          · exact .inl (Nat.le_trans hr.below.size g)
          · obtain ⟨b',i',x',t',_,g2,g3⟩:=hGBold c g
            exact hr.old b' x' c t' g2 g3
        · exact hr.old b x' c t hx' (hph.symm.trans hp)
      · rcases p8 b hb (Nat.lt_of_lt_of_le hlt' hr.below.size) with g | g
        · exact hrz.s1 b g hlt'
        · obtain ⟨b',i',x',t',_,g2,g3⟩:=hGBold b g
          exact .inr ((hr.old b' x' b t' g2 g3).resolve_left (by omega))
      · refine ⟨p5.os.trans hr.below.os,p5.tape.trans hr.below.tape,p5.output.trans hr.below.output,Nat.le_trans hr.below.size p5.size,fun k hk hG => ?_⟩
        rw [p5.block k (Nat.lt_of_lt_of_le hk hr.below.size) fun g => ?_]
        · exact hr.below.block k hk hG
        · obtain ⟨b',i',x',t',_,g2,g3⟩:=hGBold k g
          rcases hr.old b' x' k t' g2 g3 with g | g
          · omega
          · exact hG g
      · obtain ⟨x,hx⟩:=Option.isSome_iff_exists.1 hb
        rcases hcase b x hx with ⟨i,y,h1,rfl,rfl⟩ | ⟨hb',hl',hlt',hph,x',hx'⟩
        · by_cases hi : i < bs.length
          · obtain ⟨x',hx',_⟩:=hbs _ (List.getElem_mem hi)
            exact .inl (by rw [r1 i hi,hx'];rfl)
          · refine .inr ?_
            cases hl0 : lookB B.h0 (r i) with
            | none => rfl
            | some x0 =>
              have g1:=mx_lt hl0
              have g2:=hr.nx0
              rw [r2 i (by omega)] at g1
              omega
        · exact .inl (by rw [hx'];rfl)
      · have hnG : ¬ GB Hin φin D:=fun hG => by
          obtain ⟨b',i',x',t',_,g2,g3⟩:=hGBold D hG
          exact ho b' x' D t' g2 g3 rfl
        refine ⟨p5.block D hD hnG,fun h => ?_,fun b x c t l p e => ?_⟩
        · rcases (p8 D h hD).resolve_right hnG with h | ⟨b',hb',fz',ver',ag',sz',n',f',ty',t',l',p'⟩
          · exact hS h
          · exact ho b' _ D t' l' p' rfl
        · subst e
          rcases hcase b x l with ⟨i,y,h1,rfl,rfl⟩ | ⟨hb,hl',hlt',hph,x',hx'⟩
          · rw [f3] at p
            rcases (p4 c ⟨i,y,t,h1,p⟩).2 with g | g
            · omega
            · exact hnG g
          · exact ho b x' c t hx' (hph.symm.trans p) rfl
    exact ⟨v,_,φ2,S',he,hrel.put (ex_rep (fun i y h => ⟨f4 i y h,f3 i⟩) _ _ p1) hd,hK⟩
theorem execOp_fn {o : Oper} {f : Operand} {xs : List Operand} {ts : Array TypeId} {g : FuncId} {cap : List Value} (ho : o.op = .call { callee:=.value f,args:=⟨xs⟩,argTypes:=ts }) (hf : a.eval f = .func (.func g) #[] ⟨cap⟩) :
    execOp a.eval o = callFunc g ⟨xs.map a.eval ++ cap⟩:=by
  have : execOp a.eval o = (do let d ← resolve a.eval { callee:=.value f,args:=⟨xs⟩,argTypes:=ts } o.type;invoke d.target d.args):=by
    unfold execOp
    rw [ho]
  rw [this]
  simp only [resolve,hf,Deferred.ofValue]
  show callFunc g (#[] ++ (⟨xs⟩ : Array Operand).map a.eval ++ ⟨cap⟩) = _
  congr 1
  simp
theorem run_callFunc {P : Program} {g : FuncId} (h : fnOk P g = true) (vs : Array Value) (w : World) : (callFunc g vs).run P w = .ok (.enter g vs) w:=by
  unfold fnOk at h
  split at h
  · rename_i fn hf
    simp only [Bool.and_eq_true,Bool.not_eq_true'] at h
    have hb : fn.body ≠ none:=by intro hb;simp [hb] at h
    have hn : fn.name ≠ "runtime.NumGoroutine":=by simpa using h.2
    simp [callFunc,hf,hn,hb]
  · cases h
theorem reps_map (hev : ∀ x,RepV s.h φ S w (ev E s x) (a.eval x)) : ∀ xs : List Operand,RepVs s.h φ S w (xs.map (ev E s)) (xs.map a.eval)
  | [] => rfl
  | x :: xs => ⟨_,_,rfl,hev x,reps_map hev xs⟩
mutual
theorem flat_imp (ρ : Nat → Option Nat) (H : Hp) : ∀ (d : D),flat d = true → imp ρ H d = d
  | .int ..,_ | .bool ..,_ | .str ..,_ | .nilp,_ | .nils,_ | .nilm,_ | .nilf,_ | .gl ..,_ | .unk,_ => rfl
  | .ro ..,h | .ra ..,h | .sl ..,h | .ad ..,h | .el ..,h | .vs ..,h => by simp [flat] at h
  | .agg cs,h => by simp only [imp,flats_imp ρ H cs (by simpa only [flat] using h)]
  | .tup cs,h => by simp only [imp,flats_imp ρ H cs (by simpa only [flat] using h)]
  | .fn f cs,h => by simp only [imp,flats_imp ρ H cs (by simpa only [flat] using h)]
theorem flats_imp (ρ : Nat → Option Nat) (H : Hp) : ∀ (ds : List D),flats ds = true → imps ρ H ds = ds
  | [],_ => rfl
  | d :: ds,h => by
    simp only [flats,Bool.and_eq_true] at h
    simp only [imps,flat_imp ρ H d h.1,flats_imp ρ H ds h.2]
end
mutual
theorem flat_repv {H : Hp} {φ : Ph} {S S' : Nat → Prop} {w w' : World} : ∀ (d : D) (v : Value),RepV H φ S w d v → flat d = true → Rep0 S' w' d v
  | .int ..,_,h,_ | .bool ..,_,h,_ | .str ..,_,h,_ | .nilp,_,h,_ | .nils,_,h,_ | .nilm,_,h,_ | .nilf,_,h,_ | .gl ..,_,h,_ | .unk,_,h,_ => by simp only [RepV,Rep0] at h ⊢ <;> exact h
  | .ro ..,_,_,h | .ra ..,_,_,h | .sl ..,_,_,h | .ad ..,_,_,h | .el ..,_,_,h | .vs ..,_,_,h => by simp [flat] at h
  | .agg cs,v,h,hc => by
    simp only [RepV,Rep0,flat] at h hc ⊢
    obtain ⟨vs,e,h⟩:=h
    exact ⟨vs,e,flats_repv cs vs h hc⟩
  | .tup cs,v,h,hc => by
    simp only [RepV,Rep0,flat] at h hc ⊢
    obtain ⟨vs,e,h⟩:=h
    exact ⟨vs,e,flats_repv cs vs h hc⟩
  | .fn f cs,v,h,hc => by
    simp only [RepV,Rep0,flat] at h hc ⊢
    obtain ⟨vs,e,h⟩:=h
    exact ⟨vs,e,flats_repv cs vs h hc⟩
theorem flats_repv {H : Hp} {φ : Ph} {S S' : Nat → Prop} {w w' : World} : ∀ (ds : List D) (vs : List Value),RepVs H φ S w ds vs → flats ds = true → Rep0s S' w' ds vs
  | [],vs,h,_ => by simpa [RepVs,Rep0s] using h
  | d :: ds,vs,h,hc => by
    simp only [RepVs,Rep0s,flats,Bool.and_eq_true] at h hc ⊢
    obtain ⟨v,vs',e,h1,h2⟩:=h
    exact ⟨v,vs',e,flat_repv d v h1 hc.1,flats_repv ds vs' h2 hc.2⟩
end
theorem CallR_sound (hB : BOK E B) (hr : Rel B s φ S a w) {g : FuncId} {ds : List D} {vs : List Value} (hds : RepVs s.h φ S w ds vs) {dst : Option Nat} (hd : ∀ t,dst = some t → t < B.N) {K : St → Prop} (h : CallR E g ds K s dst) :
    fnOk E.P g = true ∧ Calls E.P g ⟨vs⟩ w fun e w' => ∃ v s' φ' S',e = .returned v ∧ Rel B s' φ' S' (a.put dst v) w' ∧ K s':=by
  obtain ⟨bs,d,hgiv,hflB,hfl,hC,hK⟩:=h
  refine ⟨hC.1, ?_⟩
  obtain ⟨hnd,hbs⟩:=giv_spec hgiv
  let F:=fsOf s bs ds
  let Hin:=impH (pos bs) s.h bs 0
  let φin : Ph:=fun i => (bs[i]?).bind φ
  have hHin : ∀ i,lookB Hin i = (bs[i]?).bind fun b => (lookB s.h b).map (impB (pos bs) s.h):=fun i => by
    show lookB (impH (pos bs) s.h bs 0) i = _
    rw [impH_look bs 0 i fun b hb => let ⟨x,hx,_⟩:=hbs b hb;⟨x,hx⟩]
    simp
  have hρ : ∀ b i,pos bs b = some i → ∀ x,lookB s.h b = some x → lookB Hin i = some (impB (pos bs) s.h x) ∧ φin i = φ b:=fun b i hi x hx => by
    have:=pos_spec hi
    exact ⟨by rw [hHin,this];simp [hx],by show (bs[i]?).bind φ = φ b;rw [this];rfl⟩
  have hback : ∀ i y,lookB Hin i = some y → ∃ b x,pos bs b = some i ∧ lookB s.h b = some x ∧ y = impB (pos bs) s.h x:=fun i y hy => by
    rw [hHin] at hy
    cases hb : bs[i]? with
    | none => rw [hb] at hy;cases hy
    | some b =>
      rw [hb] at hy
      obtain ⟨x,hx,rfl⟩:=Option.map_eq_some_iff.1 (by simpa using hy)
      obtain ⟨j,hj⟩:=pos_mem (List.mem_of_getElem? hb)
      have h1:=pos_spec hj
      obtain ⟨l1,e1⟩:=List.getElem?_eq_some_iff.1 h1
      obtain ⟨l2,e2⟩:=List.getElem?_eq_some_iff.1 hb
      have : j = i:=(List.getElem_inj hnd).1 (e1.trans e2.symm)
      subst this
      exact ⟨b,x,hj,hx,rfl⟩
  have hposnone : ∀ b,(pos bs b = none) ∨ b ∈ bs:=fun b => by
    cases hb : pos bs b with
    | none => exact .inl rfl
    | some i => exact .inr (List.mem_of_getElem? (pos_spec hb))
  have hfsn : (∀ ρ : Nat → Option Nat,(∀ d b,b ∈ refs ρ d → ρ b = none) ∧ ∀ ds b,b ∈ refss ρ ds → ρ b = none):=fun ρ => refs_none ρ
  have hF : ∀ b,b ∈ F → pos bs b = none:=fun b hb => by
    rcases List.mem_append.1 hb with hb | hb
    · exact (hfsn _).2 _ _ hb
    · obtain ⟨b',hb',hb⟩:=List.mem_flatMap.1 hb
      unfold refB at hb
      split at hb
      · exact (hfsn _).1 _ _ hb
      · cases hb
  have hrf : ∀ b i ag sz d ty,pos bs b = some i → lookB s.h b = some (.var ag sz d ty) → ∀ b',b' ∈ refs (pos bs) d → b' ∈ F:=fun b i ag sz d ty hi hl b' hb' =>
    List.mem_append_right _ (List.mem_flatMap.2 ⟨b,List.mem_of_getElem? (pos_spec hi),by simp [refB,hl,hb']⟩)
  have hhp : HpAt Hin φin (Fz s.h φ S F) w:=imp_hp hr.hp hρ hback hF hrf
  have hargs:=imps_rep (fs:=F) hr.hp hρ ds vs hds fun b hb => List.mem_append_left _ hb
  have hrz:=hr.frz F
  have hGBold : ∀ c,GB Hin φin c → ∃ b i x t,pos bs b = some i ∧ lookB s.h b = some x ∧ φ b = some (c,t):=fun c ⟨i,y,t,h1,h2⟩ => by
    obtain ⟨b,x,h3,h4,rfl⟩:=hback i y h1
    exact ⟨b,i,x,t,h3,h4,(hρ b i h3 x h4).2.symm.trans h2⟩
  have hGB : ∀ c,GB Hin φin c → c < w.heap.size ∧ ¬ Fz s.h φ S F c:=fun c hc => by
    obtain ⟨b,i,x,t,h1,h2,h3⟩:=hGBold c hc
    refine ⟨hr.plt b x c t h2 h3, ?_⟩
    obtain ⟨h4,h5⟩:=hρ b i h1 x h2
    have hblk:=hhp.blk i _ h4
    obtain ⟨x',hx',hfz⟩:=hbs b (List.mem_of_getElem? (pos_spec h1))
    rw [h2] at hx'
    cases hx'
    cases x with
    | var ag sz d =>
      obtain ⟨c',t',g1,g2,_⟩:=hblk
      rw [h5,h3] at g1
      cases g1
      exact g2
    | row fz ver ag sz n f tyr => exact (hblk.2 c t (h5.trans h3)).1 (hfz _ _ _ _ _ _ _ rfl)
  refine Calls.mono (hC.2 _ w _ φin hrz.slt ((hB.gok hr).mono (fun _ _ => rfl) fun _ h => .inl h) hhp hGB hargs) ?_
  rintro e w' ⟨v,S',φ',he,p1,p2,p3,p4,p5,p6,p7,p8⟩
  have hk : Kept S w w':=fun c hS => p5.block c (hr.slt c hS) fun hG => (hGB c hG).2 (.inl hS)
  have hfr : ∀ b x c t,lookB s.h b = some x → pos bs b = none → φ b = some (c,t) → c < w.heap.size ∧ ¬ GB Hin φin c:=fun b x c t hl hn hp =>
    ⟨hr.plt b x c t hl hp,fun hG => by
      obtain ⟨b',i',x',t',g1,g2,g3⟩:=hGBold c hG
      have:=hr.hp.inj b b' x x' c t t' hl g2 hp g3
      subst this
      rw [hn] at g1
      cases g1⟩
  have hrel : Rel B s φ S a w':=by
    refine ⟨fun t => RepV.mono (HpExt.refl _ _) hk (fun _ h => h) _ _ (hr.env t),hr.size,⟨fun b x hl => ?_,hr.hp.inj⟩,hr.nx,fun b h => Nat.lt_of_lt_of_le (hr.slt b h) p5.size,fun b x c t hl hp => Nat.lt_of_lt_of_le (hr.plt b x c t hl hp) p5.size,hr.old,hr.s0,hr.s1, ?_,hr.ext,hr.nx0,hr.def0.move fun D hD _ hS ho => ?_⟩
    · cases hb : pos bs b with
      | none => exact BlkAt.move (HpExt.refl _ _) hk (fun _ h => h) rfl (fun c t hp => let g:=hfr b x c t hl hb hp;p5.block c g.1 g.2) (fun _ _ _ h => h) (hr.hp.blk b x hl)
      | some i =>
        have hm : b ∈ bs:=List.mem_of_getElem? (pos_spec hb)
        have hfb:=List.all_eq_true.1 hflB b hm
        rw [hl] at hfb
        cases x with
        | row fz ver ag sz n f tyr => cases hfb
        | var ag sz d0 ty0 =>
          simp only at hfb
          obtain ⟨c,t,o1,o2,_⟩:=hr.hp.blk b _ hl
          obtain ⟨q1,q2⟩:=hρ b i hb _ hl
          have q1' : lookB Hin i = some (.var ag sz d0 ty0):=by rw [q1,impB,flat_imp _ _ _ hfb]
          obtain ⟨c',t',n1,n2,x,vs,ty,lo,hi,n3,n4,n5,n6,n7⟩:=p2.blk i _ q1'
          have : φ' i = φin i:=((p3 i).1 _ _ _ _ q1').2
          rw [this,q2,o1] at n1
          cases n1
          exact ⟨c,t,o1,o2,x,vs,ty,lo,hi,n3,n4,n5,n6,Rep0.toV _ _ (flat_repv d0 x n7.1 hfb),n7.2⟩
    · refine ⟨p5.os.trans hr.below.os,p5.tape.trans hr.below.tape,p5.output.trans hr.below.output,Nat.le_trans hr.below.size p5.size,fun k hk' hG => ?_⟩
      rw [p5.block k (Nat.lt_of_lt_of_le hk' hr.below.size) fun g => ?_]
      · exact hr.below.block k hk' hG
      · obtain ⟨b',i',x',t',_,g2,g3⟩:=hGBold k g
        rcases hr.old b' x' k t' g2 g3 with g | g
        · omega
        · exact hG g
    · have hnG : ¬ GB Hin φin D:=fun hG => by
        obtain ⟨b',i',x',t',_,g2,g3⟩:=hGBold D hG
        exact ho b' x' D t' g2 g3 rfl
      exact ⟨p5.block D hD hnG,hS,ho⟩
  exact ⟨v,_,φ,S,he,hrel.put (Rep0.toV _ _ (flat_repv d v p1 hfl)) hd,hK⟩
theorem CallX_sound (hB : BOK E B) (hr : Rel B s φ S a w) {g : FuncId} {ds : List D} {vs : List Value} (hds : RepVs s.h φ S w ds vs) {dst : Option Nat} (hd : ∀ t,dst = some t → t < B.N) {K : St → Prop} (h : CallX0 E g ds K s dst ∨ CallR E g ds K s dst) :
    fnOk E.P g = true ∧ Calls E.P g ⟨vs⟩ w fun e w' => ∃ v s' φ' S',e = .returned v ∧ Rel B s' φ' S' (a.put dst v) w' ∧ K s':=by
  rcases h with h | h
  · exact CallX0_sound hB hr hds hd h
  · exact CallR_sound hB hr hds hd h
def Runs (E : Ctx) (B : Base) (a : Act) (w : World) (o : Oper) (K : St → Prop) : Prop:=
  (∃ s' φ' S' n v w',(execOp a.eval o).run E.P w = .ok n w' ∧ (n = .value v ∨ (n = .skip ∧ v = undef)) ∧ Rel B s' φ' S' (a.put o.dst v) w' ∧ K s') ∨
  (∃ g vs,(execOp a.eval o).run E.P w = .ok (.enter g vs) w ∧ Calls E.P g vs w fun e w' => ∃ v s' φ' S',e = .returned v ∧ Rel B s' φ' S' (a.put o.dst v) w' ∧ K s')
theorem Runs.live {o : Oper} {K : St → Prop} (h : Runs E B a w o K) : ∃ s',Live B s' ∧ K s':=by
  rcases h with ⟨s',φ',S',n,v,w',_,_,h1,h3⟩ | ⟨g,vs,_,h⟩
  · exact ⟨s',⟨_,_,_,_,h1⟩,h3⟩
  · obtain ⟨e,w',fr,⟨v,s',φ',S',_,h1,h3⟩,_⟩:=h []
    exact ⟨s',⟨_,_,_,_,h1⟩,h3⟩
theorem AX_runs (hB : BOK E B) (hr : Rel B s φ S a w) {o : Oper} (hd : ∀ t,o.dst = some t → t < B.N) {K : St → Prop} (h : AX E o K s) : Runs E B a w o K:=by
  have hg:=hB.gok hr
  have hev:=hr.ev hg
  have simple : ork (pv E s o.op) (KP K s o.dst) (ef E s o.op (KT K o.dst)) → Runs E B a w o K:=by
    intro h
    refine .inl ?_
    unfold ork at h
    split at h
    · rename_i d hpv
      obtain ⟨v,h1,h2⟩:=pv_sound hr.hp hev hpv
      exact ⟨_,φ,S,_,v,w,h1, .inl rfl,hr.put h2 hd,h⟩
    · obtain ⟨d,s',φ',n,v,w',h1,h2,h3,h4,h5,h6⟩:=ef_sound hr hev h
      exact ⟨_,φ',S,n,v,w',h1,h2,h5.put h6 hd,h3⟩
  unfold AX at h
  split at h
  · rename_i f xs ts ho
    split at h
    · rename_i g cap hfn
      have hf:=hev f
      rw [hfn] at hf
      simp only [RepV] at hf
      obtain ⟨cv,hf,hcap⟩:=hf
      have viaCall : (CallX0 E g (xs.map (ev E s) ++ cap) K s o.dst ∨ CallR E g (xs.map (ev E s) ++ cap) K s o.dst) → Runs E B a w o K:=fun h => by
        obtain ⟨h1,h2⟩:=CallX_sound hB hr ((reps_map hev xs).append hcap) hd h
        exact .inr ⟨g,_,by rw [execOp_fn ho hf];exact run_callFunc h1 _ _,h2⟩
      rcases h with h | h | ⟨⟨fn,g1,g2,g3,g4,g5⟩,d,hds,hK⟩
      · exact viaCall (.inl h)
      · exact viaCall (.inr h)
      · have hreps:=(reps_map hev xs).append hcap
        rw [hds] at hreps
        simp only [RepVs] at hreps
        obtain ⟨v,vs',hvs,hv,rfl⟩:=hreps
        refine .inl ⟨_,φ,S,_,v,w, ?_, .inl rfl,hr.put hv hd,hK⟩
        rw [execOp_fn ho hf,run_callFunc_extern g1 g2 g3 g4 g5,hvs]
        rfl
    · exact h.elim
  · exact simple h
def dstOk (N : Nat) (o : Oper) : Bool:=match o.dst with
  | some t => decide (t < N)
  | none => true
theorem dstOk.spec {N : Nat} {o : Oper} (h : dstOk N o = true) : ∀ t,o.dst = some t → t < N:=fun t e => by
  unfold dstOk at h
  rw [e] at h
  simpa using h
def WF (r : Option Nat) : Fence:=⟨fun _ => True,none,false,r⟩
theorem WF.calls {r : Option Nat} {n : Nat} {P : Program} {f : FuncId} {args : Array Value} {w : World} {R : Ending → World → Prop} (h : Calls P f args w R) : CallsIn (WF r) n P f args w R:=
  (callsIn_wide (n:=n)).2 h
theorem WF.room {r : Option Nat} (n : Nat) : (WF r).room n:=fun d hd => by cases hd
theorem AX_nodefer {o : Oper} {K : St → Prop} (h : AX E o K s) (c : Call) : o.op ≠ .defer c:=fun e => by
  unfold AX at h
  rw [e] at h
  exact h
theorem AT_op (hB : BOK E B) (hr : Rel B s φ S a w) {r : Option Nat} {ops : Array Oper} {i : Nat} {o : Oper} (hi : ops[i]? = some o) (hd : dstOk B.N o = true) {K : St → Prop} {K' : Act → World → Prop} {Q : Exit → Act → World → Prop}
    (hK : ∀ s' φ' S' a' w',Rel B s' φ' S' a' w' → K s' → K' a' w') (h : AT E ops o K s) : wpOpIn (WF r) 0 E.P ops Q i K' a w:=by
  have go : AX E o K s → o.wpIn (WF r) 0 E.P a w K' Q:=fun h => by
    refine ⟨fun _ _ => trivial, ?_⟩
    rw [Oper.semAt_eq _ _ _ (AX_nodefer h)]
    rcases AX_runs hB hr (dstOk.spec hd) h with ⟨s',φ',S',n,v,w',h1,h2,h3,h4⟩ | ⟨g,vs,h1,h2⟩
    · rw [h1]
      rcases h2 with rfl | ⟨rfl,rfl⟩
      · exact hK _ _ _ _ _ h3 h4
      · exact hK _ _ _ _ _ h3 h4
    · rw [h1]
      refine ⟨fun h => (by cases h),WF.calls (Calls.mono h2 ?_)⟩
      rintro e w' ⟨v,s',φ',S',rfl,h3,h4⟩
      exact hK _ _ _ _ _ h3 h4
  unfold wpOpIn
  simp only [hi]
  unfold AT at h
  split at h
  · rename_i hgu
    have : Region.wanted o (yielded ops a.tmps) = true:=by simp [Region.wanted,hgu]
    rw [if_pos this]
    exact go h
  · rename_i g want hgu
    split at h
    · rename_i t ht
      unfold gd at h
      split at h
      · rename_i b hb
        have hev:=hr.env t
        rw [hb] at hev
        simp only [RepV,Rep0] at hev
        have hy : yielded ops a.tmps g = some b:=by
          unfold yielded
          rw [ht]
          simp only [Option.bind_some]
          rw [Array.getD_eq_getD_getElem?] at hev
          cases hx : a.tmps[t]? with
          | none => rw [hx] at hev;simp [undef] at hev
          | some x => rw [hx] at hev;simp only [Option.getD_some] at hev;subst hev;rfl
        have hw : Region.wanted o (yielded ops a.tmps) = (b == want):=by simp [Region.wanted,hgu,hy]
        rw [hw]
        by_cases e : b = want
        · subst e
          simp only [beq_self_eq_true,if_true]
          exact go (h.1 rfl)
        · have : (b == want) = false:=by simpa using e
          rw [this]
          simp only [Bool.false_eq_true,if_false]
          refine ⟨fun _ _ => trivial, ?_⟩
          exact hK _ _ _ _ _ (hr.put (d:=.tup []) (v:=undef) (by simp only [RepV,RepVs,undef];exact ⟨[],rfl,rfl⟩) (dstOk.spec hd)) (h.2 e)
      · rename_i ds hb
        have hev:=hr.env t
        rw [hb] at hev
        simp only [RepV] at hev
        obtain ⟨vs,hev,_⟩:=hev
        have hy : yielded ops a.tmps g = none:=by
          unfold yielded
          rw [ht]
          simp only [Option.bind_some]
          rw [Array.getD_eq_getD_getElem?] at hev
          cases hx : a.tmps[t]? with
          | none => rfl
          | some x => rw [hx] at hev;simp only [Option.getD_some] at hev;subst hev;rfl
        have hw : Region.wanted o (yielded ops a.tmps) = false:=by simp [Region.wanted,hgu,hy]
        rw [hw]
        simp only [Bool.false_eq_true,if_false]
        refine ⟨fun _ _ => trivial, ?_⟩
        exact hK _ _ _ _ _ (hr.put (d:=.tup []) (v:=undef) (by simp only [RepV,RepVs,undef];exact ⟨[],rfl,rfl⟩) (dstOk.spec hd)) h
      · exact h.elim
    · exact h.elim
theorem AR_text (hB : BOK E B) {r : Option Nat} {ops : Array Oper} {K : St → Prop} {Q : Exit → Act → World → Prop} (hd : ops.all (dstOk B.N) = true) (hK : ∀ s' φ' S' a' w',Rel B s' φ' S' a' w' → K s' → Q .normal a' w') :
    ∀ (n i : Nat) (s : St) (φ : Ph) (S : Nat → Prop) (a : Act) (w : World),i + n = ops.size → Rel B s φ S a w → AR E ops (ops.toList.drop i) K s → wpOpsIn (WF r) 0 E.P ops Q (List.range' i n) a w
  | 0,i,s,φ,S,a,w,hn,hr,h => by
    have : ops.toList.drop i = []:=by simp;omega
    rw [this] at h
    exact hK _ _ _ _ _ hr h
  | n + 1,i,s,φ,S,a,w,hn,hr,h => by
    have hlt : i < ops.toList.length:=by simp;omega
    rw [List.drop_eq_getElem_cons hlt] at h
    simp only [AR] at h
    rw [List.range'_succ,wpOpsIn_cons]
    refine AT_op hB hr (o:=ops.toList[i]) (by simp [Array.getElem?_eq_getElem (by simpa using hlt)]) ?_ (fun s' φ' S' a' w' hr' h' => AR_text hB hd hK n (i + 1) s' φ' S' a' w' (by omega) hr' h') h
    have:=Array.all_eq_true.1 hd i (by simpa using hlt)
    simpa using this
end
end Go.Proofs.YtakaojkfipnfcaaGreatDoor.Lv
