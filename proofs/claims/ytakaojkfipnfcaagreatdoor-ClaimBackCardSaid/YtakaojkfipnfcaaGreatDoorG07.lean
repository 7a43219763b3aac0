/- The abstract machine: regions. -/
import Derived.Test.YtakaojkfipnfcaaGreatDoorG06
set_option linter.unusedVariables false
set_option linter.unusedSimpArgs false
set_option maxRecDepth 100000
set_option maxHeartbeats 4000000
namespace Go.Proofs.YtakaojkfipnfcaaGreatDoor.Lv
open Go Go.RowKit
def without (U : List Nat) (i : Nat) : List Nat:=U.filter fun j => j != i
def readyA (ops : Array Oper) (U : List Nat) : List Nat:=U.filter fun i => match ops[i]? with
  | some o => o.after.toList.all fun e => !Region.binds .any e || !U.contains e.on
  | none => false
def AI (E : Ctx) (ops : Array Oper) (i : Nat) (K : St → Prop) (s : St) : Prop:=match ops[i]? with
  | some o => AT E ops o K s
  | none => K s
def AAny (E : Ctx) (ops : Array Oper) : Nat → List Nat → (St → Prop) → St → Prop
  | 0,U,K,s => U = [] ∧ K s
  | n + 1,U,K,s => (readyA ops U = [] → K s) ∧ ∀ i ∈ readyA ops U,AI E ops i (AAny E ops n (without U i) K) s
def backOk (ops : Array Oper) : Bool:=(List.range ops.size).all fun i => match ops[i]? with
  | some o => o.after.toList.all fun e => !Region.binds .any e || decide (e.on < i)
  | none => true
def masks (ops : Array Oper) : Array Nat:=ops.toList.foldl (fun ms o => ms.push (o.after.toList.foldl (fun s e => if Region.binds .any e then s ||| 2 ^ e.on ||| ms.getD e.on 0 else s) 0)) #[]
def maskOk (ops : Array Oper) (ms : Array Nat) : Bool:=(List.range ops.size).all fun i => match ops[i]? with
  | some o => ms.getD i 0 == o.after.toList.foldl (fun s e => if Region.binds .any e then s ||| 2 ^ e.on ||| ms.getD e.on 0 else s) 0
  | none => true
def freeOk (E : Ctx) (ops : Array Oper) (ms : Array Nat) (U : List Nat) (i : Nat) : Bool:=match ops[i]? with
  | none => false
  | some oi => U.all fun j => j == i || (ms.getD j 0).testBit i || match ops[j]? with
    | some oj => okPair E ops oi oj
    | none => true
def regOk (E : Ctx) (ops : Array Oper) : Bool:=
  let ms:=masks ops
  maskOk ops ms && (List.range ops.size).all fun i => freeOk E ops ms (List.range' i (ops.size - i)) i
def AReg (E : Ctx) (ops : Array Oper) (draw : Bool) (K : St → Prop) (s : St) : Prop:=
  if draw then ∀ B,BOK E B → ops.all (dstOk B.N) = true → backOk ops = true → Live B s → AAny E ops ops.size (List.range ops.size) K s else AR E ops ops.toList K s
section
variable {E : Ctx} {B : Base} {ops : Array Oper}
theorem mem_without {U : List Nat} {i j : Nat} : j ∈ without U i ↔ j ∈ U ∧ j ≠ i:=by simp [without]
theorem without_comm (U : List Nat) (i j : Nat) : without (without U i) j = without (without U j) i:=by
  unfold without
  rw [List.filter_filter,List.filter_filter]
  congr 1
  funext x
  rw [Bool.and_comm]
theorem mem_readyA {U : List Nat} {i : Nat} : i ∈ readyA ops U ↔ i ∈ U ∧ ∃ o,ops[i]? = some o ∧ ∀ e ∈ o.after,Region.binds .any e = true → e.on ∉ U:=by
  unfold readyA
  rw [List.mem_filter]
  cases ho : ops[i]? with
  | none => simp
  | some o =>
    simp only [List.all_eq_true,Bool.or_eq_true,Bool.not_eq_true',Option.some.injEq,exists_eq_left',Array.mem_toList_iff]
    refine and_congr_right fun _ => ⟨fun h e he hb => ?_,fun h e he => ?_⟩
    · rcases h e he with h | h
      · rw [hb] at h;cases h
      · simpa using h
    · cases hb : Region.binds .any e
      · exact .inl rfl
      · exact .inr (by simpa using h e he hb)
theorem readyA_mono {U : List Nat} {i j : Nat} (h : i ∈ readyA ops U) (hne : i ≠ j) : i ∈ readyA ops (without U j):=by
  rw [mem_readyA] at h ⊢
  obtain ⟨h1,o,h2,h3⟩:=h
  exact ⟨mem_without.2 ⟨h1,hne⟩,o,h2,fun e he hb hm => h3 e he hb (mem_without.1 hm).1⟩
theorem AI_some {i : Nat} {o : Oper} (h : ops[i]? = some o) (K : St → Prop) (s : St) : AI E ops i K s = AT E ops o K s:=by unfold AI;rw [h]
theorem dst_of {N : Nat} (hd : ops.all (dstOk N) = true) {i : Nat} {o : Oper} (h : ops[i]? = some o) : dstOk N o = true:=by
  obtain ⟨hlt,rfl⟩:=Array.getElem?_eq_some_iff.1 h
  exact Array.all_eq_true.1 hd i hlt
theorem AI_mono (hB : BOK E B) (hd : ops.all (dstOk B.N) = true) {i : Nat} {s : St} (hL : Live B s) {K K' : St → Prop} (hK : ∀ s',Live B s' → K s' → K' s') (h : AI E ops i K s) : AI E ops i K' s:=by
  unfold AI at h ⊢
  cases ho : ops[i]? with
  | none => rw [ho] at h;exact hK s hL h
  | some o => rw [ho] at h;exact AT_mono hB hL (dst_of hd ho) hK h
theorem fold_bit (ms : Array Nat) (k : Nat) : ∀ (l : List Edge) (x : Nat),(l.foldl (fun s e => if Region.binds .any e then s ||| 2 ^ e.on ||| ms.getD e.on 0 else s) x).testBit k = true →
    x.testBit k = true ∨ ∃ e ∈ l,Region.binds .any e = true ∧ (e.on = k ∨ (ms.getD e.on 0).testBit k = true)
  | [],x,h => .inl h
  | e :: l,x,h => by
    simp only [List.foldl_cons] at h
    rcases fold_bit ms k l _ h with h | ⟨e',he',h⟩
    · split at h
      · rename_i hb
        simp only [Nat.testBit_or,Bool.or_eq_true,Nat.testBit_two_pow,decide_eq_true_eq] at h
        rcases h with (h | h) | h
        · exact .inl h
        · exact .inr ⟨e,by simp,hb, .inl h⟩
        · exact .inr ⟨e,by simp,hb, .inr h⟩
      · exact .inl h
    · exact .inr ⟨e',by simp [he'],h⟩
theorem mask_down {ms : Array Nat} (hm : maskOk ops ms = true) {U : List Nat} (hdn : ∀ j k,j ∉ U → (ms.getD j 0).testBit k = true → k ∉ U) {j : Nat} (hj : j ∈ readyA ops U) {k : Nat} (hk : (ms.getD j 0).testBit k = true) : k ∉ U:=by
  obtain ⟨h1,o,h2,h3⟩:=mem_readyA.1 hj
  have hlt : j < ops.size:=(Array.getElem?_eq_some_iff.1 h2).1
  have:=List.all_eq_true.1 hm j (List.mem_range.2 hlt)
  rw [h2] at this
  simp only [beq_iff_eq] at this
  rw [this] at hk
  rcases fold_bit ms k _ _ hk with h | ⟨e,he,hb,h⟩
  · simp at h
  · have hn:=h3 e (by simpa using he) hb
    rcases h with rfl | h
    · exact hn
    · exact hdn _ _ hn h
theorem AAny_take (hB : BOK E B) (hd : ops.all (dstOk B.N) = true) {ms : Array Nat} (hm : maskOk ops ms = true) {i : Nat} {K : St → Prop} : ∀ (n : Nat) (U : List Nat) (s : St),
    i ∈ readyA ops U → freeOk E ops ms U i = true → (∀ j k,j ∉ U → (ms.getD j 0).testBit k = true → k ∉ U) → Live B s → AI E ops i (AAny E ops n (without U i) K) s → AAny E ops (n + 1) U K s
  | 0,U,s,hi,hf,hdn,hL,h => by
    refine ⟨fun e => (by rw [e] at hi;cases hi),fun j hj => ?_⟩
    by_cases hji : j = i
    · subst hji;exact h
    · obtain ⟨_,o,ho,_⟩:=mem_readyA.1 hi
      rw [AI_some ho] at h
      obtain ⟨s',_,h1,_⟩:=AT_live hB hL (dst_of hd ho) h
      have:=mem_without.2 ⟨(mem_readyA.1 hj).1,hji⟩
      rw [h1] at this
      cases this
  | n + 1,U,s,hi,hf,hdn,hL,h => by
    refine ⟨fun e => (by rw [e] at hi;cases hi),fun j hj => ?_⟩
    by_cases hji : j = i
    · subst hji;exact h
    · obtain ⟨hiU,oi,hoi,_⟩:=mem_readyA.1 hi
      obtain ⟨hjU,oj,hoj,_⟩:=mem_readyA.1 hj
      have h1 : AI E ops i (AI E ops j (AAny E ops n (without (without U i) j) K)) s:=
        AI_mono hB hd hL (fun s' _ hx => hx.2 j (readyA_mono hj hji)) h
      have hok : okPair E ops oi oj = true:=by
        have:=hf
        unfold freeOk at this
        rw [hoi] at this
        have:=List.all_eq_true.1 this j hjU
        rw [hoj] at this
        simp only [Bool.or_eq_true,beq_iff_eq] at this
        rcases this with (h2 | h2) | h2
        · exact (hji h2).elim
        · exact (mask_down hm hdn hj h2 hiU).elim
        · exact h2
      have h2 : AI E ops j (AI E ops i (AAny E ops n (without (without U i) j) K)) s:=by
        rw [AI_some hoi] at h1
        rw [AI_some hoj]
        have e1 : ∀ s',AI E ops j (AAny E ops n (without (without U i) j) K) s' = AT E ops oj (AAny E ops n (without (without U i) j) K) s':=fun s' => AI_some hoj _ _
        have e2 : (AI E ops i (AAny E ops n (without (without U i) j) K)) = AT E ops oi (AAny E ops n (without (without U i) j) K):=funext fun s' => AI_some hoi _ _
        rw [show (AI E ops j (AAny E ops n (without (without U i) j) K)) = AT E ops oj (AAny E ops n (without (without U i) j) K) from funext e1] at h1
        rw [e2]
        exact comm hok hB hL h1
      refine AI_mono hB hd hL (fun s' hL' hx => ?_) h2
      rw [without_comm] at hx
      refine AAny_take hB hd hm n (without U j) s' (readyA_mono hi (Ne.symm hji)) ?_ (fun j' k hj' hk hkU => ?_) hL' hx
      · unfold freeOk at hf ⊢
        rw [hoi] at hf ⊢
        rw [List.all_eq_true] at hf ⊢
        exact fun x hx => hf x (mem_without.1 hx).1
      · have hkU':=(mem_without.1 hkU).1
        by_cases hjj : j' = j
        · subst hjj;exact mask_down hm hdn hj hk hkU'
        · exact hdn j' k (fun hm => hj' (mem_without.2 ⟨hm,hjj⟩)) hk hkU'
theorem back_spec (hb : backOk ops = true) {i : Nat} {o : Oper} (ho : ops[i]? = some o) {e : Edge} (he : e ∈ o.after) (hbd : Region.binds .any e = true) : e.on < i:=by
  have:=List.all_eq_true.1 hb i (List.mem_range.2 (Array.getElem?_eq_some_iff.1 ho).1)
  rw [ho] at this
  have h2:=List.all_eq_true.1 this e (by simpa using he)
  rw [hbd] at h2
  simpa using h2
theorem mask_lt {ms : Array Nat} (hb : backOk ops = true) (hm : maskOk ops ms = true) (hs : ms.size ≤ ops.size) : ∀ (j k : Nat),(ms.getD j 0).testBit k = true → k < j:=by
  intro j
  induction j using Nat.strongRecOn with
  | _ j ih =>
    intro k hk
    cases ho : ops[j]? with
    | none =>
      have : ms.size ≤ j:=Nat.le_trans hs (by simpa using ho)
      rw [Array.getD_eq_getD_getElem?,Array.getElem?_eq_none this] at hk
      simp at hk
    | some o =>
      have:=List.all_eq_true.1 hm j (List.mem_range.2 (Array.getElem?_eq_some_iff.1 ho).1)
      rw [ho] at this
      simp only [beq_iff_eq] at this
      rw [this] at hk
      rcases fold_bit ms k _ _ hk with h | ⟨e,he,hbd,h⟩
      · simp at h
      · have hlt:=back_spec hb ho (e:=e) (by simpa using he) hbd
        rcases h with rfl | h
        · exact hlt
        · exact Nat.lt_trans (ih _ hlt k h) hlt
theorem masks_size (ops : Array Oper) : (masks ops).size ≤ ops.size:=by
  unfold masks
  have : ∀ (l : List Oper) (x : Array Nat),(l.foldl (fun ms o => ms.push (o.after.toList.foldl (fun s e => if Region.binds .any e then s ||| 2 ^ e.on ||| ms.getD e.on 0 else s) 0)) x).size = x.size + l.length:=by
    intro l
    induction l with
    | nil => intro x;rfl
    | cons o l ih => intro x;simp only [List.foldl_cons,ih,Array.size_push,List.length_cons];omega
  rw [this]
  simp
theorem range'_ready (hb : backOk ops = true) {i : Nat} (hi : i < ops.size) : i ∈ readyA ops (List.range' i (ops.size - i)):=by
  rw [mem_readyA]
  refine ⟨by simp [List.mem_range'_1];omega,ops[i],by simp [hi],fun e he hbd hm => ?_⟩
  have:=back_spec hb (i:=i) (o:=ops[i]) (by simp [hi]) he hbd
  simp [List.mem_range'_1] at hm
  omega
theorem AAny_of_AR (hB : BOK E B) (hd : ops.all (dstOk B.N) = true) (hb : backOk ops = true) (hr : regOk E ops = true) {K : St → Prop} : ∀ (n i : Nat) (s : St),i + n = ops.size → Live B s → AR E ops (ops.toList.drop i) K s → AAny E ops n (List.range' i n) K s
  | 0,i,s,hn,hL,h => by
    have : ops.toList.drop i = []:=by simp;omega
    rw [this] at h
    exact ⟨rfl,h⟩
  | n + 1,i,s,hn,hL,h => by
    have hr':=hr
    simp only [regOk,Bool.and_eq_true] at hr'
    obtain ⟨hm,hf⟩:=hr'
    have hlt : i < ops.size:=by omega
    have hU : List.range' i (ops.size - i) = List.range' i (n + 1):=by rw [show ops.size - i = n + 1 by omega]
    have hw : without (List.range' i (n + 1)) i = List.range' (i + 1) n:=by
      rw [List.range'_succ]
      unfold without
      rw [List.filter_cons]
      simp only [bne_self_eq_false,Bool.false_eq_true,if_false]
      rw [List.filter_eq_self]
      intro j hj
      simp [List.mem_range'_1] at hj
      simp
      omega
    refine AAny_take hB hd hm n _ s (hU ▸ range'_ready hb hlt) ?_ (fun j k hj hk hkU => ?_) hL ?_
    · exact hU ▸ List.all_eq_true.1 hf i (List.mem_range.2 hlt)
    · have h1:=mask_lt hb hm (masks_size ops) j k hk
      simp only [List.mem_range'_1] at hj hkU
      have : j < i ∨ i + (n + 1) ≤ j:=by omega
      rcases this with h | h
      · omega
      · have : (masks ops).size ≤ j:=Nat.le_trans (masks_size ops) (by omega)
        rw [Array.getD_eq_getD_getElem?,Array.getElem?_eq_none this] at hk
        simp at hk
    · rw [hw]
      have hlt' : i < ops.toList.length:=by simpa using hlt
      rw [List.drop_eq_getElem_cons hlt'] at h
      simp only [AR] at h
      have ho : ops[i]? = some ops.toList[i]:=by simp [hlt]
      rw [AI_some ho]
      exact AT_mono hB hL (dst_of hd ho) (fun s' hL' hx => AAny_of_AR hB hd hb hr n (i + 1) s' (by omega) hL' hx) h
def Ctx.lim (E : Ctx) (gs : Nat → Bool) : Ctx:=⟨E.P,E.tt,E.gv,E.htt,E.mixed,gs⟩
variable {gs : Nat → Bool} (hgs : ∀ g,gs g = true → E.give g = true)
theorem shut_fits (h : Hp) : ∀ (ps : List (Nat × D)) (pl : List (Nat × Nat)),fits (E.lim gs) h ps pl = fits E h ps pl
  | [],_ => rfl
  | (i,d) :: r,pl => by
    simp only [fits,shut_fits h r pl]
    rfl
theorem shut_pv (s : St) (op : Op) : pv (E.lim gs) s op = pv E s op:=by
  cases op <;> try rfl
  case build t ps =>
    obtain ⟨ps⟩:=ps
    simp only [pv,shut_fits]
    rfl
  case makeFunc fn first cap => obtain ⟨first⟩:=first;obtain ⟨cap⟩:=cap;cases fn <;> cases first <;> rfl
  case slice t x lo hi mx => cases mx <;> rfl
  case call c =>
    obtain ⟨callee,⟨args⟩,⟨tys⟩⟩:=c
    cases callee with
    | value f => rfl
    | invoke r n => rfl
    | builtin bi =>
      cases bi <;> try rfl
      all_goals (match args,tys with
        | [],_ => rfl
        | [_],[] => rfl
        | [_],[_] => rfl
        | [_],_ :: _ :: _ => rfl
        | [_,_],_ => rfl
        | _ :: _ :: _ :: _,_ => rfl)
theorem shut_ef (s : St) (op : Op) (K : D → St → Prop) : ef (E.lim gs) s op K = ef E s op K:=by
  cases op <;> rfl
include hgs in
theorem shut_call {g : FuncId} {ds : List D} {K : St → Prop} {s : St} {dst : Option Nat} (h : CallX (E.lim gs) g ds K s dst) : CallX E g ds K s dst:=by
  rcases h with ⟨bs,d,h',h0,h1,h2,h3⟩ | h
  · exact .inl ⟨bs,d,h',h0.imp_left (hgs g),h1,h2,h3⟩
  · exact .inr h
include hgs in
theorem shut_AX {o : Oper} {K : St → Prop} {s : St} (h : AX (E.lim gs) o K s) : AX E o K s:=by
  by_cases hc : ∃ f xs ts,o.op = .call { callee:=.value f,args:=⟨xs⟩,argTypes:=ts }
  · obtain ⟨f,xs,ts,ho⟩:=hc
    unfold AX at h ⊢
    rw [ho] at h ⊢
    simp only at h ⊢
    have e : ev (E.lim gs) s = ev E s:=rfl
    rw [e] at h
    cases hf : ev E s f <;> rw [hf] at h <;> first | exact shut_call hgs h | exact h.elim
  · have e : ∀ E' : Ctx,AX E' o K s = ork (pv E' s o.op) (KP K s o.dst) (ef E' s o.op (KT K o.dst)):=fun E' => by
      unfold AX
      split
      · rename_i f xs ts ho
        exact (hc ⟨_,_,_,ho⟩).elim
      · rfl
    rw [e] at h ⊢
    rw [shut_pv,shut_ef] at h
    exact h
include hgs in
theorem shut_AT {o : Oper} {K : St → Prop} {s : St} (h : AT (E.lim gs) ops o K s) : AT E ops o K s:=by
  unfold AT at h ⊢
  cases hg : o.guard with
  | none => rw [hg] at h;exact shut_AX hgs h
  | some q =>
    obtain ⟨g,want⟩:=q
    rw [hg] at h
    simp only at h ⊢
    cases ht : (ops[g]?).bind (·.dst) with
    | none => rw [ht] at h;exact h
    | some t =>
      rw [ht] at h
      simp only at h ⊢
      cases hb : s.e t <;> rw [hb] at h <;> first | exact ⟨fun e => shut_AX hgs (h.1 e),h.2⟩ | exact h
include hgs in
theorem AT_weak {o : Oper} (hB : BOK E B) {s : St} (hL : Live B s) (hd : dstOk B.N o = true) {K K' : St → Prop} (hK : ∀ s',Live B s' → K s' → K' s') (h : AT (E.lim gs) ops o K s) : AT E ops o K' s:=
  shut_AT hgs (AT_mono (E:=(E.lim gs)) (B:=B) hB hL hd hK h)
include hgs in
theorem shut_AAny (hB : BOK E B) (hd : ops.all (dstOk B.N) = true) {K : St → Prop} : ∀ (n : Nat) (U : List Nat) (s : St),Live B s → AAny (E.lim gs) ops n U K s → AAny E ops n U K s
  | 0,U,s,_,h => h
  | n + 1,U,s,hL,h => ⟨h.1,fun i hi => by
    have:=h.2 i hi
    unfold AI at this ⊢
    cases ho : ops[i]? with
    | none => rw [ho] at this;exact shut_AAny hB hd n _ s hL this
    | some o =>
      rw [ho] at this
      exact AT_weak hgs hB hL (dst_of hd ho) (fun s' hL' hx => shut_AAny hB hd n _ s' hL' hx) this⟩
theorem AReg_give {K : St → Prop} {s : St} (hr : regOk E ops = true) (h : AR E ops ops.toList K s) : AReg E ops true K s:=by
  unfold AReg
  rw [if_pos rfl]
  intro B hB hd hb hL
  have:=AAny_of_AR (K:=K) hB hd hb hr ops.size 0 s (by omega) hL (by simpa using h)
  rwa [← List.range_eq_range'] at this
include hgs in
theorem AReg_good {K : St → Prop} {s : St} (hr : regOk (E.lim gs) ops = true) (h : AR (E.lim gs) ops ops.toList K s) : AReg E ops true K s:=by
  unfold AReg
  rw [if_pos rfl]
  intro B hB hd hb hL
  have:=AAny_of_AR (E:=(E.lim gs)) (K:=K) hB hd hb hr ops.size 0 s (by omega) hL (by simpa using h)
  rw [← List.range_eq_range'] at this
  exact shut_AAny hgs hB hd _ _ _ hL this
theorem AReg_text {K : St → Prop} {s : St} : AReg E ops false K s ↔ AR E ops ops.toList K s:=by simp [AReg]
variable {Q : Exit → Act → World → Prop}
theorem any_sound (hB : BOK E B) {rd : Option Nat} (hd : ops.all (dstOk B.N) = true) (hb : backOk ops = true) {K : St → Prop} (hK : ∀ s' φ' S' a' w',Rel B s' φ' S' a' w' → K s' → Q .normal a' w') :
    ∀ (n : Nat) (listed : Array Bool) (U : List Nat) (s : St) (φ : Ph) (S : Nat → Prop) (a : Act) (w : World),listed.size = ops.size → (∀ i,i ∈ U ↔ i < ops.size ∧ listed.getD i true = false) → Rel B s φ S a w → AAny E ops n U K s → wpAnyIn (WF rd) 0 E.P .any ops Q n listed a w:=by
  have same : ∀ (listed : Array Bool) (U : List Nat),listed.size = ops.size → (∀ i,i ∈ U ↔ i < ops.size ∧ listed.getD i true = false) → ∀ i,i ∈ Region.ready .any ops listed ↔ i ∈ readyA ops U:=by
    intro listed U hs hU i
    rw [mem_ready,mem_readyA,hU]
    constructor
    · rintro ⟨h1,o,h2,h3⟩
      refine ⟨⟨(Array.getElem?_eq_some_iff.1 h2).1,h1⟩,o,h2,fun e he hbd hm => ?_⟩
      have h4:=h3 e he hbd
      have h5:=((hU e.on).1 hm)
      rw [Array.getD_eq_getD_getElem?,Array.getElem?_eq_getElem (by omega)] at h4
      have h6:=h5.2
      rw [Array.getD_eq_getD_getElem?,Array.getElem?_eq_getElem (by omega)] at h6
      simp_all
    · rintro ⟨h1,o,h2,h3⟩
      refine ⟨h1.2,o,h2,fun e he hbd => ?_⟩
      have hlt:=back_spec hb h2 he hbd
      have h4:=h3 e he hbd
      rw [hU] at h4
      have h5 : e.on < listed.size:=by omega
      rw [Array.getD_eq_getD_getElem?,Array.getElem?_eq_getElem h5]
      rw [Array.getD_eq_getD_getElem?,Array.getElem?_eq_getElem h5] at h4
      simp only [Option.getD_some] at h4 ⊢
      have : e.on < ops.size:=by omega
      simp_all
  intro n
  induction n with
  | zero =>
    intro listed U s φ S a w hs hU hr h
    obtain ⟨rfl,h⟩:=h
    refine ⟨?_,hK _ _ _ _ _ hr h⟩
    cases hx : Region.ready .any ops listed with
    | nil => rfl
    | cons i r =>
      have:=(same listed [] hs hU i).1 (by rw [hx];simp)
      simp [readyA] at this
  | succ n ih =>
    intro listed U s φ S a w hs hU hr h
    refine ⟨fun e => hK _ _ _ _ _ hr (h.1 ?_),fun i hi => ?_⟩
    · cases hx : readyA ops U with
      | nil => rfl
      | cons i r =>
        have:=(same listed U hs hU i).2 (by rw [hx];simp)
        rw [e] at this
        cases this
    · have hi':=(same listed U hs hU i).1 hi
      obtain ⟨hiU,o,ho,_⟩:=mem_readyA.1 hi'
      have h2:=h.2 i hi'
      rw [AI_some ho] at h2
      refine AT_op hB hr ho (dst_of hd ho) (fun s' φ' S' a' w' hr' h' => ?_) h2
      refine ih (listed.setIfInBounds i true) (without U i) s' φ' S' a' w' (by simpa using hs) (fun j => ?_) hr' h'
      rw [mem_without,hU]
      by_cases hji : j = i
      · subst hji
        have : j < listed.size:=by rw [hs];exact ((hU j).1 hiU).1
        simp [Array.getD_eq_getD_getElem?,Array.getElem?_setIfInBounds_self_of_lt this]
      · rw [getD_set_ne true (Ne.symm hji)]
        simp [hji]
theorem AReg_sound (hB : BOK E B) {rd : Option Nat} (hd : ops.all (dstOk B.N) = true) (hb : backOk ops = true) {id : Nat} {draw : Bool} {K : St → Prop} (hK : ∀ s' φ' S' a' w',Rel B s' φ' S' a' w' → K s' → Q .normal a' w')
    {s : St} {φ : Ph} {S : Nat → Prop} {a : Act} {w : World} (hr : Rel B s φ S a w) (h : AReg E ops draw K s) : (Code.region id ops draw).wpIn (WF rd) 0 E.P Q a w:=by
  cases draw with
  | false =>
    rw [AReg_text] at h
    refine wpIn_region ?_
    rw [List.range_eq_range']
    exact AR_text hB hd hK ops.size 0 s φ S a w (by omega) hr (by simpa using h)
  | true =>
    unfold AReg at h
    rw [if_pos rfl] at h
    refine wpIn_region_any E.mixed ?_
    have hr':=hr.drawn (w.drawn + 1)
    exact any_sound hB hd hb hK ops.size _ (List.range ops.size) s φ S a _ (by simp) (fun i => by
      rw [List.mem_range]
      refine ⟨fun h => ⟨h,by simp [Array.getD_eq_getD_getElem?,h]⟩,fun h => h.1⟩) hr' (h B hB hd hb ⟨_,_,_,_,hr'⟩)
end
end Go.Proofs.YtakaojkfipnfcaaGreatDoor.Lv
