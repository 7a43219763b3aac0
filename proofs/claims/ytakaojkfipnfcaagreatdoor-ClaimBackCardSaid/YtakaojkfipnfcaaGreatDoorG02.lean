/- The abstract machine: what a state says is still so behind a step that turns one block. The abstract machine: new variables, and stores. The abstract machine: slices that are made; values that are built. -/
import Derived.Test.YtakaojkfipnfcaaGreatDoorG01
import Derived.Great.BuildSlice
set_option linter.unusedVariables false
set_option linter.unusedSimpArgs false
set_option maxRecDepth 100000
set_option maxHeartbeats 4000000
namespace Go.Proofs.YtakaojkfipnfcaaGreatDoor.Lv
open Go Go.RowKit
theorem lookB_up (b : Nat) (x : Blk) : ∀ (h : Hp) (b' : Nat),lookB (up h b x) b' = if b' = b ∧ (lookB h b).isSome = true then some x else lookB h b'
  | [],b' => by simp [up,lookB]
  | (c,y) :: r,b' => by
    simp only [up]
    by_cases hb : b = c
    · subst hb
      simp only [if_true,lookB]
      by_cases h : b' = b <;> simp [h]
    · simp only [if_neg hb,lookB,lookB_up b x r b']
      by_cases h : b' = c
      · subst h
        simp [Ne.symm hb]
      · simp only [if_neg h]
theorem BlkAt.mono {H H' : Hp} {φ φ' : Ph} {S : Nat → Prop} {w w' : World} (hx : HpExt H φ H' φ') (hk : Kept S w w') {b : Nat} (hph : φ' b = φ b) (hw : ∀ c t,φ b = some (c,t) → w'.heap[c]? = w.heap[c]?) :
    ∀ {x : Blk},BlkAt H φ S w b x → BlkAt H' φ' S w' b x
  | .var ag sz d ty,h => by
    obtain ⟨c,t,h1,h2,x,vs,e,lo,hi,h3,h4,h5,h6,h7⟩:=h
    exact ⟨c,t,hph.trans h1,h2,x,vs,e,lo,hi,(hw c t h1).trans h3,h4,h5,h6,RepV.mono hx hk (fun _ h => h) _ _ h7.1,h7.2⟩
  | .row fz ver ag sz n f ty,h => by
    refine ⟨fun e => h.1 (hph.symm.trans e),fun c tot e => ?_⟩
    have e':=hph.symm.trans e
    obtain ⟨h1,h2,h3,h4,vs,ty,lo,hi,h5,h6,h7,h8,h9⟩:=h.2 c tot e'
    refine ⟨h1,h2,h3,h4,vs,ty,lo,hi,(hw c tot e').trans h5,h6,h7,fun i hi => ?_,h9⟩
    obtain ⟨x,g1,g2⟩:=h8 i hi
    exact ⟨x,g1,Rep0.mono hk (fun _ h => h) _ _ g2⟩
structure Turn (B : Base) (s : St) (φ : Ph) (S : Nat → Prop) (w : World) (b : Nat) (H' : Hp) (φ' : Ph) (nx' : Nat) (w1 : World) : Prop where
  same : ∀ b',b' ≠ b → lookB H' b' = lookB s.h b' ∧ φ' b' = φ b'
  ext : (∀ ag sz d ty,lookB s.h b = some (.var ag sz d ty) → (∃ d',lookB H' b = some (.var ag sz d' ty)) ∧ φ' b = φ b) ∧
    (∀ fz ver ag sz m f ty,lookB s.h b = some (.row fz ver ag sz m f ty) → ∃ fz' ver' m' f' ty',lookB H' b = some (.row fz' ver' ag sz m' f' ty') ∧ ver ≤ ver' ∧ (ver = ver' → m ≤ m' ∧ φ' b = φ b))
  at_ : ∀ c t,φ' b = some (c,t) → c < w1.heap.size ∧ (B.w0.heap.size ≤ c ∨ B.G c) ∧ (c = w.heap.size ∨ ∃ x t',lookB s.h b = some x ∧ φ b = some (c,t'))
  os : w1.os = w.os
  tape : w1.tape = w.tape
  output : w1.output = w.output
  size : w.heap.size ≤ w1.heap.size
  block : ∀ k,k < w.heap.size → (∀ x c t,lookB s.h b = some x → φ b = some (c,t) → k ≠ c) → w1.heap[k]? = w.heap[k]?
  safe : ∀ x c t,lookB s.h b = some x → φ b = some (c,t) → ¬ S c
  nx : ∀ b' x,lookB H' b' = some x → b' < nx'
  fresh : lookB s.h b = none → b = s.nx
  nxm : s.nx ≤ nx'
theorem Turn.hpext {B : Base} {s : St} {φ : Ph} {S : Nat → Prop} {w : World} {b : Nat} {H' : Hp} {φ' : Ph} {nx' : Nat} {w1 : World} (t : Turn B s φ S w b H' φ' nx' w1) : HpExt s.h φ H' φ':=fun b' => by
  by_cases hb : b' = b
  · subst hb;exact t.ext
  · obtain ⟨h1,h2⟩:=t.same b' hb
    exact ⟨fun ag sz d ty h => ⟨⟨d,h1.trans h⟩,h2⟩,fun fz ver ag sz m f ty h => ⟨fz,ver,m,f,ty,h1.trans h,Nat.le_refl _,fun _ => ⟨Nat.le_refl _,h2⟩⟩⟩
theorem Turn.kept {B : Base} {s : St} {φ : Ph} {S : Nat → Prop} {w : World} {b : Nat} {H' : Hp} {φ' : Ph} {nx' : Nat} {w1 : World} (t : Turn B s φ S w b H' φ' nx' w1) (hs : ∀ b,S b → b < w.heap.size) : Kept S w w1:=fun k hk =>
  t.block k (hs k hk) fun x c t' h1 h2 e => t.safe x c t' h1 h2 (e ▸ hk)
theorem Turn.rel {B : Base} {s : St} {φ : Ph} {S : Nat → Prop} {a : Act} {w : World} {b : Nat} {H' : Hp} {φ' : Ph} {nx' : Nat} {w1 : World} (hr : Rel B s φ S a w) (t : Turn B s φ S w b H' φ' nx' w1)
    (hb : ∀ x,lookB H' b = some x → BlkAt H' φ' S w1 b x) : Rel B ⟨s.e,H',nx'⟩ φ' S a w1:=by
  have hx:=t.hpext
  have hk:=t.kept hr.slt
  refine ⟨fun i => RepV.mono hx hk (fun _ h => h) _ _ (hr.env i),hr.size,⟨fun b' x h => ?_,fun b1 b2 x1 x2 c t1 t2 l1 l2 p1 p2 => ?_⟩,t.nx,fun b' h => Nat.lt_of_lt_of_le (hr.slt b' h) t.size,fun b' x c t' l p => ?_,fun b' x c t' l p => ?_,hr.s0,hr.s1, ?_,hr.ext.trans hx (fun b' hb' => ?_),Nat.le_trans hr.nx0 t.nxm,hr.def0.move fun D hD _ hS ho => ⟨t.block D hD fun x c t' l p e => ho b x c t' l p e.symm,hS,fun b' x c t' l p e => ?_⟩⟩
  · by_cases e : b' = b
    · subst e;exact hb x h
    · obtain ⟨h1,h2⟩:=t.same b' e
      refine BlkAt.mono hx hk h2 (fun c t' hp => ?_) (hr.hp.blk b' x (h1.symm.trans h))
      refine t.block c (hr.plt b' x c t' (h1.symm.trans h) hp) fun y c2 t2 l2 p2 ec => ?_
      subst ec
      exact e (hr.hp.inj b' b x y c t' t2 (h1.symm.trans h) l2 hp p2)
  · have key : ∀ b2 x2 t1 t2,b2 ≠ b → lookB H' b2 = some x2 → φ' b = some (c,t1) → φ' b2 = some (c,t2) → False:=by
      intro b2 x2 t1 t2 e l2 p1 p2
      obtain ⟨h1,h2⟩:=t.same b2 e
      have l2':=h1.symm.trans l2
      have p2':=h2.symm.trans p2
      obtain ⟨_,_,h3⟩:=t.at_ c t1 p1
      have hlt:=hr.plt b2 x2 c t2 l2' p2'
      rcases h3 with h3 | ⟨x,t',l,p⟩
      · omega
      · exact e (hr.hp.inj b2 b x2 x c t2 t' l2' l p2' p)
    by_cases e1 : b1 = b
    · by_cases e2 : b2 = b
      · rw [e1,e2]
      · subst e1;exact (key b2 x2 t1 t2 e2 l2 p1 p2).elim
    · by_cases e2 : b2 = b
      · subst e2;exact (key b1 x1 t2 t1 e1 l1 p2 p1).elim
      · obtain ⟨h1,h2⟩:=t.same b1 e1
        obtain ⟨h3,h4⟩:=t.same b2 e2
        exact hr.hp.inj b1 b2 x1 x2 c t1 t2 (h1.symm.trans l1) (h3.symm.trans l2) (h2.symm.trans p1) (h4.symm.trans p2)
  · by_cases e : b' = b
    · subst e;exact (t.at_ c t' p).1
    · obtain ⟨h1,h2⟩:=t.same b' e
      exact Nat.lt_of_lt_of_le (hr.plt b' x c t' (h1.symm.trans l) (h2.symm.trans p)) t.size
  · by_cases e : b' = b
    · subst e;exact (t.at_ c t' p).2.1
    · obtain ⟨h1,h2⟩:=t.same b' e
      exact hr.old b' x c t' (h1.symm.trans l) (h2.symm.trans p)
  · have hbl:=hr.below
    refine ⟨t.os.trans hbl.os,t.tape.trans hbl.tape,t.output.trans hbl.output,Nat.le_trans hbl.size t.size,fun k hk hG => ?_⟩
    rw [t.block k (Nat.lt_of_lt_of_le hk hbl.size) fun x c t' l p e => by rcases hr.old b x c t' l p with h | h;omega;exact hG (e ▸ h)]
    exact hbl.block k hk hG
  · by_cases e : b' = b
    · cases hl : lookB s.h b' with
      | some x => exact .inl rfl
      | none =>
        have hb:=t.fresh (e ▸ hl)
        refine .inr ?_
        cases hl0 : lookB B.h0 b' with
        | none => rfl
        | some x =>
          have h1:=mx_lt hl0
          have h2:=hr.nx0
          omega
    · rw [(t.same b' e).1] at hb'
      exact .inl hb'
  · subst e
    by_cases eb : b' = b
    · subst eb
      rcases (t.at_ c t' p).2.2 with h1 | ⟨y,t2,h1,h2⟩
      · omega
      · exact ho b' y c t2 h1 h2 rfl
    · obtain ⟨h1,h2⟩:=t.same b' eb
      exact ho b' x c t' (h1.symm.trans l) (h2.symm.trans p) rfl
def phUp (φ : Ph) (b : Nat) (p : Option (Nat × Nat)) : Ph:=fun b' => if b' = b then p else φ b'
theorem turn_new {B : Base} {s : St} {φ : Ph} {S : Nat → Prop} {a : Act} {w : World} (hr : Rel B s φ S a w) (x : Blk) (p : Option (Nat × Nat)) (hp : ∀ c t,p = some (c,t) → c = w.heap.size) {w1 : World}
    (h1 : w1.os = w.os) (h2 : w1.tape = w.tape) (h3 : w1.output = w.output) (h4 : w.heap.size ≤ w1.heap.size) (h5 : ∀ k,k < w.heap.size → w1.heap[k]? = w.heap[k]?) (h6 : p ≠ none → w.heap.size < w1.heap.size) :
    Turn B s φ S w s.nx ((s.nx,x) :: s.h) (phUp φ s.nx p) (s.nx + 1) w1:=by
  have hno : ∀ y,lookB s.h s.nx = some y → False:=fun y h => Nat.lt_irrefl _ (hr.nx _ _ h)
  refine ⟨fun b' e => ⟨by simp [lookB,e],by simp [phUp,e]⟩,⟨fun ag sz d ty h => (hno _ h).elim,fun fz ver ag sz m f ty h => (hno _ h).elim⟩,fun c t e => ?_,h1,h2,h3,h4,fun k hk _ => h5 k hk,fun y c t l => (hno _ l).elim,fun b' y l => ?_,fun _ => rfl,Nat.le_succ _⟩
  · simp only [phUp,if_true] at e
    obtain rfl:=hp c t e
    exact ⟨h6 (by rw [e];simp), .inl hr.below.size, .inl rfl⟩
  · simp only [lookB] at l
    split at l
    · omega
    · exact Nat.lt_succ_of_lt (hr.nx _ _ l)
theorem turn_up {B : Base} {s : St} {φ : Ph} {S : Nat → Prop} {a : Act} {w : World} (hr : Rel B s φ S a w) {b : Nat} {y x : Blk} (hl : lookB s.h b = some y) (p : Option (Nat × Nat)) {w1 : World}
    (hsafe : ∀ c t,φ b = some (c,t) → ¬ S c)
    (hext : (∀ ag sz d ty,y = .var ag sz d ty → (∃ d',x = .var ag sz d' ty) ∧ p = φ b) ∧ (∀ fz ver ag sz m f ty,y = .row fz ver ag sz m f ty → ∃ fz' ver' m' f' ty',x = .row fz' ver' ag sz m' f' ty' ∧ ver ≤ ver' ∧ (ver = ver' → m ≤ m' ∧ p = φ b)))
    (hp : ∀ c t,p = some (c,t) → c = w.heap.size ∧ w.heap.size < w1.heap.size ∨ ∃ t',φ b = some (c,t'))
    (h1 : w1.os = w.os) (h2 : w1.tape = w.tape) (h3 : w1.output = w.output) (h4 : w.heap.size ≤ w1.heap.size) (h5 : ∀ k,k < w.heap.size → (∀ c t,φ b = some (c,t) → k ≠ c) → w1.heap[k]? = w.heap[k]?) :
    Turn B s φ S w b (up s.h b x) (phUp φ b p) s.nx w1:=by
  have hlu : lookB (up s.h b x) b = some x:=by rw [lookB_up];simp [hl]
  have hne : ∀ b',b' ≠ b → lookB (up s.h b x) b' = lookB s.h b':=fun b' e => by rw [lookB_up];simp [e]
  refine ⟨fun b' e => ⟨hne b' e,by simp [phUp,e]⟩,⟨fun ag sz d ty h => ?_,fun fz ver ag sz m f ty h => ?_⟩,fun c t e => ?_,h1,h2,h3,h4,fun k hk h => h5 k hk fun c t e => h y c t hl e,fun y' c t l e => hsafe c t e,fun b' z l => ?_,fun e => (by rw [hl] at e;cases e),Nat.le_refl _⟩
  · rw [hl] at h
    obtain ⟨⟨d',e⟩,e2⟩:=hext.1 ag sz d ty (Option.some.inj h)
    exact ⟨⟨d',by rw [hlu,e]⟩,by simp [phUp,e2]⟩
  · rw [hl] at h
    obtain ⟨fz',ver',m',f',ty',e,h6,h7⟩:=hext.2 fz ver ag sz m f ty (Option.some.inj h)
    exact ⟨fz',ver',m',f',ty',by rw [hlu,e],h6,fun e => by simpa [phUp] using h7 e⟩
  · simp only [phUp,if_true] at e
    rcases hp c t e with ⟨rfl,h⟩ | ⟨t',h⟩
    · exact ⟨h, .inl hr.below.size, .inl rfl⟩
    · exact ⟨Nat.lt_of_lt_of_le (hr.plt b y c t' hl h) h4,hr.old b y c t' hl h, .inr ⟨y,t',hl,h⟩⟩
  · by_cases e : b' = b
    · subst e;exact hr.nx _ _ hl
    · exact hr.nx _ _ ((hne b' e).symm.trans l)
section
variable {H : Hp} {φ : Ph} {S : Nat → Prop} {w : World}
theorem one_cell {d : D} {v : Value} (hr : RepV H φ S w d v) (h : one H d = true) : v.oneCell' = true:=by
  cases d <;> simp only [one,Bool.false_eq_true] at h
  case sl b ver off n =>
    simp only [RepV] at hr
    obtain ⟨fz,ver',ag,sz,m,f,ty,hl,hv,hr⟩:=hr
    simp only [cur,hl,beq_iff_eq] at h
    obtain ⟨_,a,cap,rfl,_⟩:=hr h.symm
    rfl
  case el b ver i fo =>
    obtain ⟨fz,ag,sz,m,f,ty,hl,h3,c,t',hph,rfl⟩:=el_cur (by simpa only [RepV] using hr) h
    rfl
  all_goals simp only [RepV,Rep0] at hr
  case int => subst hr;rfl
  case bool => subst hr;rfl
  case str => subst hr;rfl
  case nilp => subst hr;rfl
  case nils => subst hr;rfl
  case nilm => subst hr;rfl
  case nilf => subst hr;rfl
  case gl => subst hr;rfl
  case ro => obtain ⟨a,cap,rfl,_⟩:=hr;rfl
  case ra => obtain ⟨b,o,x,vs,rfl,_⟩:=hr;rfl
  case ad => obtain ⟨ag,sz,d,ty,c,t,_,_,rfl⟩:=hr;rfl
  case vs => obtain ⟨ag,sz,d,ty,c,t,a,cap,_,_,rfl,_⟩:=hr;rfl
  case fn => obtain ⟨vs,rfl,_⟩:=hr;rfl
theorem all_one : ∀ {ds : List D} {vs : List Value},RepVs H φ S w ds vs → ds.all (one H) = true → ∀ y ∈ vs,y.oneCell' = true
  | [],vs,h,_,y,hy => by simp only [RepVs] at h;subst h;cases hy
  | d :: ds,vs,h,h1,y,hy => by
    simp only [RepVs] at h
    obtain ⟨v,vs',rfl,h2,h3⟩:=h
    simp only [List.all_cons,Bool.and_eq_true] at h1
    rcases List.mem_cons.1 hy with rfl | hy
    · exact one_cell h2 h1.1
    · exact all_one h3 h1.2 y hy
theorem chk_cells {ag : Bool} {sz : Nat} {d : D} {v : Value} (hr : RepV H φ S w d v) (h : chk H ag sz d = true) :
    ∃ vs,v.cells = ⟨vs⟩ ∧ Cells ag v vs ∧ vs.length = sz ∧ (∀ y ∈ vs,y.oneCell' = true):=by
  unfold chk at h
  split at h
  · rename_i cs hcs
    simp only [Bool.and_eq_true,beq_iff_eq] at h
    obtain ⟨hl,h1⟩:=h
    unfold cellsOf at hcs
    cases ag with
    | true =>
      simp only [if_true] at hcs
      cases d <;> simp only [asAgg,Option.some.injEq,reduceCtorEq] at hcs
      subst hcs
      simp only [RepV] at hr
      obtain ⟨vs,rfl,hr⟩:=hr
      exact ⟨vs,rfl,rfl,by rw [hr.length];exact hl,all_one hr h1⟩
    | false =>
      simp only [Bool.false_eq_true,if_false,Option.some.injEq] at hcs
      subst hcs
      simp only [List.all_cons,List.all_nil,Bool.and_true] at h1
      have:=one_cell hr h1
      refine ⟨[v], ?_,rfl,by simpa using hl,by simpa using this⟩
      cases v <;> first | rfl | simp [Value.oneCell'] at this
  · cases h
mutual
theorem cl_rep : ∀ (d : D) (v : Value),RepV H φ S w d v → cl d = true → Rep0 S w d v
  | .int ..,_,h,_ | .bool ..,_,h,_ | .str ..,_,h,_ | .nilp,_,h,_ | .nils,_,h,_ | .nilm,_,h,_ | .nilf,_,h,_ | .gl ..,_,h,_ | .unk,_,h,_ | .ro ..,_,h,_ | .ra ..,_,h,_ => by simpa only [RepV] using h
  | .sl ..,_,_,h | .ad ..,_,_,h | .el ..,_,_,h | .vs ..,_,_,h => by simp only [cl,Bool.false_eq_true] at h
  | .agg cs,v,h,hc => by
    simp only [Rep0,RepV,cl] at h hc ⊢
    obtain ⟨vs,e,h⟩:=h
    exact ⟨vs,e,cls_rep cs vs h hc⟩
  | .tup cs,v,h,hc => by
    simp only [Rep0,RepV,cl] at h hc ⊢
    obtain ⟨vs,e,h⟩:=h
    exact ⟨vs,e,cls_rep cs vs h hc⟩
  | .fn f cs,v,h,hc => by
    simp only [Rep0,RepV,cl] at h hc ⊢
    obtain ⟨vs,e,h⟩:=h
    exact ⟨vs,e,cls_rep cs vs h hc⟩
theorem cls_rep : ∀ (ds : List D) (vs : List Value),RepVs H φ S w ds vs → cls ds = true → Rep0s S w ds vs
  | [],vs,h,_ => by simpa only [Rep0s,RepVs] using h
  | d :: ds,vs,h,hc => by
    simp only [Rep0s,RepVs,cls,Bool.and_eq_true] at h hc ⊢
    obtain ⟨v,vs',e,h1,h2⟩:=h
    exact ⟨v,vs',e,cl_rep d v h1 hc.1,cls_rep ds vs' h2 hc.2⟩
end
end
theorem store_run (P : Program) {c o : Nat} {e : TypeId} {lo hi : Nat} : ∀ (us : List Value) (i : Nat) (vs : List Value) (w : World),w.heap[c]? = some (.cells ⟨vs⟩ e (lo,hi)) → o + i + us.length ≤ vs.length →
    (∀ j,j < vs.length → ¬ (lo ≤ j ∧ j < hi)) → (∀ y ∈ us,y.oneCell' = true) →
    (storeCells ⟨c,o,none⟩ us i).run P w = .ok () (w.setRow c (vs.take (o + i) ++ us ++ vs.drop (o + i + us.length)).toArray)
  | [],i,vs,w,hg,_,_,_ => by
    simp only [storeCells,List.append_nil,List.length_nil,Nat.add_zero,List.take_append_drop]
    rw [setRow_self w c vs.toArray e (lo,hi) hg]
    rfl
  | v :: rest,i,vs,w,hg,hl,hf,h1 => by
    have hi' : o + i < vs.length:=by simp at hl;omega
    have hcell : w.cell? ⟨c,o + i,none⟩ = some vs[o + i]:=by simp [World.cell?,hg,hi']
    have hfro : w.frozen? ⟨c,o + i,none⟩ = false:=by
      have:=hf (o + i) hi'
      simp only [World.frozen?,hg]
      rw [Bool.and_eq_false_iff,decide_eq_false_iff_not,decide_eq_false_iff_not]
      by_cases hlo : lo ≤ o + i
      · exact .inr fun h => this ⟨hlo,h⟩
      · exact .inl hlo
    have hst : (store ((⟨c,o,none⟩ : Addr).add i) v).run P w = .ok () (w.setRow c (vs.set (o + i) v).toArray):=by
      rw [add_at,run_store P w _ v _ (h1 v (by simp)),hcell]
      simp [hfro,setCell_eq_setRow w c (o + i) vs.toArray e (lo,hi) v hg]
    have ih:=store_run P rest (i + 1) (vs.set (o + i) v) (w.setRow c (vs.set (o + i) v).toArray) (setRow_heap w c vs.toArray _ e _ hg) (by simp at hl ⊢;omega : o + (i + 1) + rest.length ≤ (vs.set (o + i) v).length) (by simpa using hf) (fun x hx => h1 x (by simp [hx]))
    simp only [storeCells,Sem.run_bind,hst,Result.andThen_ok,ih,setRow_setRow]
    congr 3
    have e:=list_seg_step vs (o + i) v rest (by simp at hl ⊢;omega)
    simpa [Nat.add_assoc] using e
def Goes (E : Ctx) (B : Base) (s : St) (S : Nat → Prop) (a : Act) (w : World) (o : Oper) (K : D → St → Prop) : Prop:=
  ∃ d s' φ' n v w',(execOp a.eval o).run E.P w = .ok n w' ∧ ((n = .value v) ∨ (n = .skip ∧ v = undef)) ∧ K d s' ∧ s'.e = s.e ∧ Rel B s' φ' S a w' ∧ RepV s'.h φ' S w' d v
section
variable {E : Ctx} {B : Base} {s : St} {φ : Ph} {S : Nat → Prop} {a : Act} {w : World}
theorem ty_ok (b : Bool) (t : Nat) : tyOf b t = 0 ∨ t = tyOf b t:=by cases b <;> simp [tyOf]
theorem var_new (hr : Rel B s φ S a w) {t : Nat} {ag : Bool} {sz ty : Nat} {d : D} {v : Value} (hv : RepV s.h φ S w d v) (hc : chk s.h ag sz d = true) (hty : ty = 0 ∨ t = ty) :
    ∃ φ',Rel B ⟨s.e,(s.nx, .var ag sz d ty) :: s.h,s.nx + 1⟩ φ' S a (w.alloc (.cells v.cells t)) ∧ RepV ((s.nx, .var ag sz d ty) :: s.h) φ' S (w.alloc (.cells v.cells t)) (.ad s.nx 0) (.pointer (some ⟨w.heap.size,0,none⟩)):=by
  obtain ⟨vs,h1,h2,h3,h4⟩:=chk_cells hv hc
  have hT:=turn_new hr (.var ag sz d ty) (some (w.heap.size,sz)) (fun c t e => by cases e;rfl) (w1:=w.alloc (.cells v.cells t)) rfl rfl rfl (by simp) (fun k hk => Below.heap_alloc w _ k hk) (fun _ => by simp)
  refine ⟨_,hT.rel hr fun x hx => ?_, ?_⟩
  · simp only [lookB,if_true,Option.some.injEq] at hx
    subst hx
    refine ⟨w.heap.size,sz,by simp [phUp],fun h => Nat.lt_irrefl _ (hr.slt _ h),v,vs,t,0,0, ?_,h3,⟨by simp,h4⟩,h2, ?_⟩
    · rw [h1];exact Go.heap_alloc_new w _
    · exact ⟨RepV.mono hT.hpext (hT.kept hr.slt) (fun _ h => h) _ _ hv,hty⟩
  · simp only [RepV]
    exact ⟨ag,sz,d,ty,w.heap.size,sz,by simp [lookB],by simp [phUp],rfl⟩
theorem box_sound (hr : Rel B s φ S a w) (hev : ∀ x,RepV s.h φ S w (ev E s x) (a.eval x)) {o : Oper} {t : Nat} {x : Operand} (ho : o.op = .box t x) {K : D → St → Prop} (h : ef E s o.op K) : Goes E B s S a w o K:=by
  rw [ho] at h
  simp only [ef] at h
  obtain ⟨hk,hc,hK⟩:=h
  obtain ⟨φ',h1,h2⟩:=var_new (t:=t) hr (hev x) hc (ty_ok (E.tt t).trk t)
  refine ⟨_,_,φ', .value (.pointer (some ⟨w.heap.size,0,none⟩)),_,_, ?_, .inl rfl,hK,rfl,h1,h2⟩
  simp [execOp,ho,Instr.box,newVar,newRow]
theorem alloc_sound (hr : Rel B s φ S a w) {o : Oper} {t : Nat} (ho : o.op = .alloc t) {K : D → St → Prop} (h : ef E s o.op K) : Goes E B s S a w o K:=by
  rw [ho] at h
  simp only [ef] at h
  obtain ⟨hz,hc,hK⟩:=h
  have hk : (E.tt t).k ≠ .bad:=by
    intro e
    rw [E.htt] at e hz
    unfold tiOf at e hz
    split at e
    · rename_i d _ _;cases d <;> simp [tkOf] at e
    · rename_i hno
      revert hz
      cases h1 : E.P.info? t <;> cases h2 : E.P.underlying t <;> simp
      exact (hno _ _ h1 h2).elim
  obtain ⟨i,ds,hi,hu,he⟩:=ti_of hk
  have hz' : i.zero.isSome = true:=by rw [he] at hz;exact hz
  obtain ⟨z,hz'⟩:=Option.isSome_iff_exists.1 hz'
  have hzd : (E.tt t).zero = ofVal z:=by rw [he];simp [hz']
  have hv : RepV s.h φ S w (E.tt t).zero z:=by rw [hzd];exact Rep0.toV _ _ (ofVal_rep z)
  obtain ⟨φ',h1,h2⟩:=var_new (t:=t) hr hv hc (ty_ok (E.tt t).trk t)
  refine ⟨_,_,φ', .value (.pointer (some ⟨w.heap.size,0,none⟩)),_,_, ?_, .inl rfl,hK,rfl,h1,h2⟩
  simp [execOp,ho,Instr.alloc,zeroValue,run_info hi,hz',newVar,newRow]
theorem storeVar_run {t : Nat} (hk : (E.tt t).k ≠ .bad) {c off : Nat} {us vs : List Value} {e : TypeId} {lo hi : Nat} {v : Value} (hc : v.cells = ⟨us⟩) (hl : us.length = (E.tt t).sz) (hg : w.heap[c]? = some (.cells ⟨vs⟩ e (lo,hi)))
    (hle : off + us.length ≤ vs.length) (hf : ∀ j,j < vs.length → ¬ (lo ≤ j ∧ j < hi)) (h1 : ∀ y ∈ us,y.oneCell' = true) :
    (Instr.storeAt t (.pointer (some ⟨c,off,none⟩)) v).run E.P w = .ok () (w.setRow c (vs.take off ++ us ++ vs.drop (off + us.length)).toArray):=by
  obtain ⟨i,ds,hi',hu,he⟩:=ti_of hk
  have hsz : us.length = i.size:=by rw [hl,he]
  have hs:=store_run E.P (o:=off) us 0 vs w hg (by omega) hf h1
  simp only [Nat.add_zero] at hs
  simp [Instr.storeAt,Instr.sureAddr,storeVar,hc,run_size hi',hsz,hs]
theorem splice_get {α : Type} {vs us : List α} {p : Nat} (h : p + us.length ≤ vs.length) (k : Nat) :
    (vs.take p ++ us ++ vs.drop (p + us.length))[k]? = if p ≤ k ∧ k < p + us.length then us[k - p]? else vs[k]?:=by
  rw [List.append_assoc,List.getElem?_append]
  simp only [List.length_take,Nat.min_eq_left (show p ≤ vs.length by omega)]
  by_cases h1 : k < p
  · rw [if_pos h1,if_neg (by omega),List.getElem?_take,if_pos h1]
  · rw [if_neg h1,List.getElem?_append]
    by_cases h2 : k - p < us.length
    · rw [if_pos h2,if_pos (by omega)]
    · rw [if_neg h2,if_neg (by omega),List.getElem?_drop]
      congr 1
      omega
theorem splice_seg {α : Type} {vs us : List α} {q sz fo : Nat} (h : q + fo + us.length ≤ vs.length) (h2 : fo + us.length ≤ sz) :
    (((vs.take (q + fo) ++ us ++ vs.drop (q + fo + us.length)).drop q).take sz) = ((vs.drop q).take sz).take fo ++ us ++ ((vs.drop q).take sz).drop (fo + us.length):=by
  apply List.ext_getElem?
  intro k
  rw [splice_get (by simp;omega)]
  simp only [List.getElem?_take,List.getElem?_drop]
  rw [splice_get h]
  by_cases hk : k < sz
  · rw [if_pos hk]
    by_cases hm : fo ≤ k ∧ k < fo + us.length
    · rw [if_pos (by omega),if_pos hm]
      congr 1
      omega
    · rw [if_neg (by omega),if_neg hm]
      simp [hk]
  · rw [if_neg hk,if_neg (by omega)]
    simp [hk]
theorem splice_other {α : Type} {vs us : List α} {p q sz : Nat} (h : p + us.length ≤ vs.length) (h2 : q + sz ≤ p ∨ p + us.length ≤ q) :
    (((vs.take p ++ us ++ vs.drop (p + us.length)).drop q).take sz) = (vs.drop q).take sz:=by
  apply List.ext_getElem?
  intro k
  simp only [List.getElem?_take,List.getElem?_drop]
  rw [splice_get h]
  by_cases hk : k < sz
  · rw [if_pos hk,if_pos hk,if_neg (by omega)]
  · rw [if_neg hk,if_neg hk]
mutual
theorem cl_of_rep {w : World} : ∀ (d : D) (v : Value),Rep0 S w d v → cl d = true
  | .int ..,_,h | .bool ..,_,h | .str ..,_,h | .nilp,_,h | .nils,_,h | .nilm,_,h | .nilf,_,h | .gl ..,_,h | .unk,_,h | .ro ..,_,h | .ra ..,_,h => by simp only [cl]
  | .sl ..,_,h | .ad ..,_,h | .el ..,_,h | .vs ..,_,h => by simp only [Rep0] at h
  | .agg cs,v,h => by simp only [Rep0,cl] at h ⊢;obtain ⟨vs,_,h⟩:=h;exact cls_of_rep cs vs h
  | .tup cs,v,h => by simp only [Rep0,cl] at h ⊢;obtain ⟨vs,_,h⟩:=h;exact cls_of_rep cs vs h
  | .fn f cs,v,h => by simp only [Rep0,cl] at h ⊢;obtain ⟨vs,_,h⟩:=h;exact cls_of_rep cs vs h
theorem cls_of_rep {w : World} : ∀ (ds : List D) (vs : List Value),Rep0s S w ds vs → cls ds = true
  | [],_,_ => rfl
  | d :: ds,vs,h => by
    simp only [Rep0s,cls,Bool.and_eq_true] at h ⊢
    obtain ⟨v,vs',_,h1,h2⟩:=h
    exact ⟨cl_of_rep d v h1,cls_of_rep ds vs' h2⟩
end
theorem cls_iff : ∀ ds : List D,cls ds = true ↔ ∀ d ∈ ds,cl d = true
  | [] => by simp [cls]
  | d :: ds => by simp [cls,cls_iff ds]
theorem cells_cl {ag : Bool} {d : D} {cs : List D} (h : cellsOf ag d = some cs) (hc : cl d = true) : cls cs = true:=by
  unfold cellsOf at h
  cases ag with
  | true =>
    simp only [if_true] at h
    cases d <;> simp only [asAgg,Option.some.injEq,reduceCtorEq] at h
    subst h
    simpa only [cl] using hc
  | false =>
    simp only [Bool.false_eq_true,if_false,Option.some.injEq] at h
    subst h
    simp [cls,hc]
theorem wr_cl {ag ag' : Bool} {sz off n : Nat} {d v d' : D} {x : Value} {w : World} (hv : cl v = true) (h : wr ag' sz d off ag n v = some d') (hr : Rep0 S w d x) : cl d' = true:=by
  unfold wr at h
  split at h
  · cases h;exact hv
  · cases hcs : cellsOf ag' d with
    | none => rw [hcs] at h;cases h
    | some cs =>
      cases hvs : cellsOf ag v with
      | none => rw [hcs,hvs] at h;cases h
      | some es =>
        rw [hcs,hvs] at h
        simp only [Option.bind_some] at h
        have r1:=(cls_iff _).1 (cells_cl hcs (cl_of_rep d x hr))
        have r2:=(cls_iff _).1 (cells_cl hvs hv)
        split at h
        · split at h
          · simp only [Option.some.injEq] at h
            subst h
            simp only [cl,cls_iff,List.mem_append]
            rintro d ((hd | hd) | hd)
            · exact r1 d (List.mem_of_mem_take hd)
            · exact r2 d hd
            · exact r1 d (List.mem_of_mem_drop hd)
          · exact r2 d' (List.mem_of_mem_head? h)
        · cases h
theorem wr_rep {H : Hp} {φ : Ph} {ag ag' : Bool} {sz off n : Nat} {d v d' : D} {x y : Value} {vs us : List Value} (hl : vs.length = sz) (hul : us.length = n) (hc : Cells ag' x vs) (hr : RepV H φ S w d x) (hcy : Cells ag y us) (hry : RepV H φ S w v y)
    (h : wr ag' sz d off ag n v = some d') : off + n ≤ vs.length ∧ ∃ z,Cells ag' z (vs.take off ++ us ++ vs.drop (off + n)) ∧ RepV H φ S w d' z:=by
  unfold wr at h
  split at h
  · rename_i hw
    simp only [Bool.and_eq_true,beq_iff_eq] at hw
    obtain ⟨⟨⟨rfl,rfl⟩,rfl⟩,rfl⟩:=hw
    simp only [Option.some.injEq] at h
    subst h
    refine ⟨by omega,y, ?_,hry⟩
    rw [List.drop_of_length_le (by omega)]
    simpa using hcy
  · cases hcs : cellsOf ag' d with
    | none => rw [hcs] at h;cases h
    | some cs =>
      cases hvs : cellsOf ag v with
      | none => rw [hcs,hvs] at h;cases h
      | some es =>
        rw [hcs,hvs] at h
        simp only [Option.bind_some] at h
        have r1:=cells_rep hc hr hcs
        have r2:=cells_rep hcy hry hvs
        split at h
        · rename_i hle
          rw [← r1.length] at hle
          refine ⟨hle, ?_⟩
          have r3:=((r1.take off).append r2).append (r1.drop (off + n))
          cases ag' with
          | true =>
            simp only [if_true,Option.some.injEq] at h
            subst h
            exact ⟨_,rfl,by simp only [RepV];exact ⟨_,rfl,r3⟩⟩
          | false =>
            simp only [Bool.false_eq_true,if_false] at h
            simp only [Cells,Bool.false_eq_true,if_false] at hc
            rw [hc] at hl hle
            simp only [List.length_singleton] at hl hle
            cases es with
            | nil => cases h
            | cons e0 er =>
              simp only [List.head?_cons,Option.some.injEq] at h
              subst h
              simp only [RepVs] at r2
              obtain ⟨u0,ur,rfl,q1,q2⟩:=r2
              simp only [List.length_cons] at hul
              obtain rfl : off = 0:=by omega
              obtain rfl : ur = []:=List.eq_nil_of_length_eq_zero (by omega)
              refine ⟨u0, ?_,q1⟩
              rw [hc,← hul]
              simp [Cells]
        · cases h
theorem store_sound (hr : Rel B s φ S a w) (hev : ∀ x,RepV s.h φ S w (ev E s x) (a.eval x)) {o : Oper} {t : Nat} {ad x : Operand} (ho : o.op = .store t ad x) {K : D → St → Prop} (h : ef E s o.op K) : Goes E B s S a w o K:=by
  have hun : RepV s.h φ S w (.tup []) undef:=by simp only [RepV];exact ⟨[],rfl,rfl⟩
  rw [ho] at h
  simp only [ef] at h
  obtain ⟨hk,hchk,h⟩:=h
  obtain ⟨us,hcu,hcells,hul,h1u⟩:=chk_cells (hev x) hchk
  split at h
  · rename_i b off e
    split at h
    · rename_i ag sz d ty0 hl
      obtain ⟨d',hw,hK⟩:=h
      have hx:=hev ad
      rw [e] at hx
      simp only [RepV] at hx
      obtain ⟨ag',sz',d0,_,c,t0,hl',hph,hv⟩:=hx
      obtain ⟨c',t',hph',hns,y,vs,ty,lo,hi,hheap,hlen,⟨hfz,h1c⟩,hcy,hry,hty⟩:=hr.hp.blk b _ hl
      rw [hph] at hph'
      simp only [Option.some.injEq,Prod.mk.injEq] at hph'
      obtain ⟨rfl,rfl⟩:=hph'
      obtain ⟨hle,z,hcz,hrz⟩:=wr_rep hlen hul hcy hry hcells (hev x) hw
      rw [← hul] at hle hcz
      have hrun:=storeVar_run (E:=E) (w:=w) hk hcu hul hheap hle (by rw [hlen];exact hfz) h1u
      have hT:=turn_up hr hl (x:=.var ag sz d' ty0) (some (c,t0)) (w1:=w.setRow c (vs.take off ++ us ++ vs.drop (off + us.length)).toArray) (fun c' t' e' => by rw [hph] at e';cases e';exact hns)
        ⟨fun _ _ _ _ he => (by cases he;exact ⟨⟨_,rfl⟩,hph.symm⟩),fun _ _ _ _ _ _ _ he => by cases he⟩ (fun c' t' e' => by cases e';exact .inr ⟨_,hph⟩) rfl rfl rfl (by simp) (fun k _ hne => setRow_other w c k _ (hne c t0 hph))
      refine ⟨_,_,_, .skip,_,_, ?_, .inr ⟨rfl,rfl⟩,hK,rfl,hT.rel hr fun q hq => ?_, ?_⟩
      · simp [execOp,ho,hv,hrun]
      · rw [lookB_up] at hq
        simp only [hl,Option.isSome_some,and_self,if_true,Option.some.injEq] at hq
        subst hq
        refine ⟨c,t0,by simp [phUp],hns,z,_,ty,lo,hi,setRow_heap w c ⟨vs⟩ _ ty (lo,hi) hheap, ?_,⟨hfz, ?_⟩,hcz,RepV.mono hT.hpext (hT.kept hr.slt) (fun _ h => h) _ _ hrz,hty⟩
        · simp;omega
        · intro y hy
          simp only [List.mem_append] at hy
          rcases hy with (hy | hy) | hy
          · exact h1c y (List.mem_of_mem_take hy)
          · exact h1u y hy
          · exact h1c y (List.mem_of_mem_drop hy)
      · exact RepV.mono hT.hpext (hT.kept hr.slt) (fun _ h => h) _ _ hun
    · exact h.elim
  · rename_i b ver i fo e
    split at h
    · rename_i ver' ag sz n f tyr hl
      obtain ⟨rfl,hcl,d',hw,hK⟩:=h
      have hx:=hev ad
      rw [e] at hx
      simp only [RepV] at hx
      obtain ⟨fz,ag0,sz0,m0,f0,ty0,hl0,hin,c,tot,hph,hv⟩:=el_cur hx (by simp [cur,hl])
      rw [hl] at hl0
      simp only [Option.some.injEq,Blk.row.injEq] at hl0
      obtain ⟨rfl,_,rfl,rfl,rfl,rfl,rfl⟩:=hl0
      obtain ⟨hS1,_,htot,hntot,vs,ty,lo,hi,hheap,hlen,⟨hfz,h1c⟩,hels,hty⟩:=(hr.hp.blk b _ hl).2 c tot hph
      have hns:=hS1 rfl
      obtain ⟨y,hcy,hry⟩:=hels i hin
      have hisz : i * sz + sz ≤ vs.length:=by
        rw [hlen]
        calc i * sz + sz = (i + 1) * sz:=by rw [Nat.add_mul];omega
          _ ≤ tot * sz:=Nat.mul_le_mul_right _ (by omega)
      obtain ⟨hle,z,hcz,hrz⟩:=wr_rep (by simp;omega) hul hcy (Rep0.toV (H:=s.h) (φ:=φ) _ _ hry) hcells (hev x) hw
      simp only [List.length_take,List.length_drop] at hle
      rw [← hul] at hle hcz
      have hrun:=storeVar_run (E:=E) (w:=w) hk hcu hul hheap (off:=i * sz + fo) (by omega) (by rw [hlen];exact hfz) h1u
      have hT:=turn_up hr hl (x:=.row false ver ag sz n (fun j => if j = i then d' else f j) tyr) (some (c,tot)) (w1:=w.setRow c (vs.take (i * sz + fo) ++ us ++ vs.drop (i * sz + fo + us.length)).toArray)
        (fun c' t' e' => by rw [hph] at e';cases e';exact hns)
        ⟨fun _ _ _ _ he => (by cases he),fun _ _ _ _ _ _ _ he => (by cases he;exact ⟨_,_,_,_,_,rfl,Nat.le_refl _,fun _ => ⟨Nat.le_refl _,hph.symm⟩⟩)⟩ (fun c' t' e' => by cases e';exact .inr ⟨_,hph⟩) rfl rfl rfl (by simp) (fun k _ hne => setRow_other w c k _ (hne c tot hph))
      have hkept:=hT.kept hr.slt
      refine ⟨_,_,_, .skip,_,_, ?_, .inr ⟨rfl,rfl⟩,hK,rfl,hT.rel hr fun q hq => ?_, ?_⟩
      · simp [execOp,ho,hv,hrun]
      · rw [lookB_up] at hq
        simp only [hl,Option.isSome_some,and_self,if_true,Option.some.injEq] at hq
        subst hq
        refine ⟨fun e => by simp [phUp] at e,fun c' t' e' => ?_⟩
        simp only [phUp,if_true,Option.some.injEq,Prod.mk.injEq] at e'
        obtain ⟨rfl,rfl⟩:=e'
        refine ⟨fun _ => hns,fun h => (by cases h),htot,hntot,_,ty,lo,hi,setRow_heap w c ⟨vs⟩ _ ty (lo,hi) hheap, ?_,⟨hfz, ?_⟩,fun j hj => ?_,hty⟩
        · simp;omega
        · intro y hy
          simp only [List.mem_append] at hy
          rcases hy with (hy | hy) | hy
          · exact h1c y (List.mem_of_mem_take hy)
          · exact h1u y hy
          · exact h1c y (List.mem_of_mem_drop hy)
        · by_cases hji : j = i
          · subst hji
            refine ⟨z, ?_, ?_⟩
            · rw [splice_seg (by omega) (by omega)]
              exact hcz
            · simp only [if_true]
              have hd' : cl d' = true:=wr_cl hcl hw hry
              exact cl_rep (H:=s.h) (φ:=φ) d' z (RepV.mono (HpExt.refl _ _) hkept (fun _ h => h) _ _ hrz) hd'
          · obtain ⟨y',g1,g2⟩:=hels j hj
            refine ⟨y', ?_, ?_⟩
            · rw [splice_other (by omega) ?_]
              · exact g1
              · rcases Nat.lt_or_gt_of_ne hji with h | h
                · left
                  calc j * sz + sz = (j + 1) * sz:=by rw [Nat.add_mul];omega
                    _ ≤ i * sz:=Nat.mul_le_mul_right _ h
                    _ ≤ i * sz + fo:=by omega
                · right
                  calc i * sz + fo + us.length ≤ i * sz + sz:=by omega
                    _ = (i + 1) * sz:=by rw [Nat.add_mul];omega
                    _ ≤ j * sz:=Nat.mul_le_mul_right _ h
            · simp only [if_neg hji]
              exact Rep0.mono hkept (fun _ h => h) _ _ g2
      · exact RepV.mono hT.hpext hkept (fun _ h => h) _ _ hun
    · exact h.elim
  · exact h.elim
end
theorem fold_set (off : Nat) : ∀ (us : List Value) (k : Nat) (cs : List Value),off + k + us.length ≤ cs.length →
    (us.zipIdx k).foldl (fun (r : Array Value) (x : Value × Nat) => r.setIfInBounds (off + x.2) x.1) ⟨cs⟩ = ⟨cs.take (off + k) ++ us ++ cs.drop (off + k + us.length)⟩
  | [],k,cs,_ => by simp
  | u :: us,k,cs,h => by
    simp only [List.length_cons] at h
    simp only [List.zipIdx_cons,List.foldl_cons]
    have e1 : (⟨cs⟩ : Array Value).setIfInBounds (off + k) u = ⟨cs.set (off + k) u⟩:=by simp
    rw [e1,fold_set off us (k + 1) (cs.set (off + k) u) (by simp;omega)]
    congr 1
    have e:=list_seg_step cs (off + k) u us (by omega)
    simp only [List.length_cons]
    simpa [Nat.add_assoc] using e
theorem fill_cons (place : Nat → Option (Nat × Nat)) {i off sz : Nat} (hp : place i = some (off,sz)) {v : Value} {us cs : List Value} (hv : v.cells = ⟨us⟩) (hl : us.length = sz) (hle : off + us.length ≤ cs.length) (rest : List (Nat × Value)) :
    Instr.fill place ⟨cs⟩ ((i,v) :: rest) = Instr.fill place ⟨cs.take off ++ us ++ cs.drop (off + us.length)⟩ rest:=by
  have hf:=fold_set off us 0 cs (by omega)
  simp only [Nat.add_zero] at hf
  have h1 : (⟨us⟩ : Array Value).zipIdx = ⟨us.zipIdx⟩:=by simp
  simp only [Instr.fill,hp,hv]
  rw [if_neg (by simp;omega)]
  congr 1
  rw [h1,← hf]
  simp
theorem fill_row (sz : Nat) : ∀ (l : List Value) (k : Nat) (cs : List Value),(∀ v ∈ l,∃ us,v.cells = ⟨us⟩ ∧ us.length = sz) → (k + l.length) * sz ≤ cs.length →
    ∃ cs',Instr.fill (fun i => some (i * sz,sz)) ⟨cs⟩ ((List.range' k l.length).zip l) = some ⟨cs'⟩ ∧ cs'.length = cs.length ∧
      (∀ (j : Nat) (v : Value),l[j]? = some v → v.cells = ⟨(cs'.drop ((k + j) * sz)).take sz⟩) ∧ (∀ j,j < k → (cs'.drop (j * sz)).take sz = (cs.drop (j * sz)).take sz) ∧ (∀ y ∈ cs',y ∈ cs ∨ ∃ v ∈ l,y ∈ v.cells.toList)
  | [],k,cs,_,_ => ⟨cs,by simp [Instr.fill],rfl,by simp,fun _ _ => rfl,fun y h => .inl h⟩
  | v :: l,k,cs,h,hle => by
    obtain ⟨us,hv,hu⟩:=h v (by simp)
    simp only [List.length_cons] at hle
    have e1 : (k + (l.length + 1)) * sz = k * sz + sz + l.length * sz:=by rw [Nat.add_mul,Nat.add_mul];omega
    have hk : k * sz + us.length ≤ cs.length:=by rw [hu];omega
    have hlen : (cs.take (k * sz) ++ us ++ cs.drop (k * sz + us.length)).length = cs.length:=by simp;omega
    have e2 : (k + 1 + l.length) * sz = k * sz + sz + l.length * sz:=by rw [Nat.add_mul,Nat.add_mul];omega
    obtain ⟨cs',g1,g2,g3,g4,g5⟩:=fill_row sz l (k + 1) (cs.take (k * sz) ++ us ++ cs.drop (k * sz + us.length)) (fun v hv => h v (by simp [hv])) (by rw [hlen];omega)
    refine ⟨cs', ?_,g2.trans hlen, ?_, ?_, ?_⟩
    · simp only [List.length_cons,List.range'_succ,List.zip_cons_cons]
      rw [fill_cons _ rfl hv hu hk]
      exact g1
    · intro j x hj
      cases j with
      | zero =>
        simp only [List.getElem?_cons_zero,Option.some.injEq] at hj
        subst hj
        rw [Nat.add_zero,g4 k (by omega),hv]
        congr 1
        have:=splice_seg (vs:=cs) (us:=us) (q:=k * sz) (sz:=sz) (fo:=0) (by omega) (by omega)
        simp only [Nat.add_zero,List.take_zero,List.nil_append,Nat.zero_add] at this
        rw [this,List.drop_of_length_le (by simp;omega)]
        simp
      | succ j =>
        simp only [List.getElem?_cons_succ] at hj
        rw [g3 j x hj]
        congr 4
        omega
    · intro j hj
      rw [g4 j (by omega)]
      refine splice_other hk (.inl ?_)
      calc j * sz + sz = (j + 1) * sz:=by rw [Nat.add_mul];omega
        _ ≤ k * sz:=Nat.mul_le_mul_right _ hj
    · intro y hy
      rcases g5 y hy with hy | ⟨x,hx,hy⟩
      · simp only [List.mem_append] at hy
        rcases hy with (hy | hy) | hy
        · exact .inl (List.mem_of_mem_take hy)
        · exact .inr ⟨v,by simp,by rw [hv];exact hy⟩
        · exact .inl (List.mem_of_mem_drop hy)
      · exact .inr ⟨x,by simp [hx],hy⟩
section
variable {E : Ctx} {B : Base} {s : St} {φ : Ph} {S : Nat → Prop} {a : Act} {w : World}
theorem rty_ok (k : TK) (e : Nat) : rtyOf k e = 0 ∨ e = rtyOf k e:=by cases k <;> simp [rtyOf]
theorem kty_old {tyr ty e : Nat} (h : tyr = 0 ∨ ty = tyr) : kTy tyr e = 0 ∨ ty = kTy tyr e:=by unfold kTy;split <;> simp_all
theorem kty_ok {t e : Nat} : kTy t e = 0 ∨ e = kTy t e:=by unfold kTy;split <;> simp_all
theorem row_new' (hr : Rel B s φ S a w) {w1 : World} {vs : List Value} {ty : TypeId} {lo hi tot n sz : Nat} {ag : Bool} {f : Nat → D} {rty : Nat}
    (hold : ∀ k,k < w.heap.size → w1.heap[k]? = w.heap[k]?) (hnew : w1.heap[w.heap.size]? = some (.cells ⟨vs⟩ ty (lo,hi))) (hsz : w.heap.size < w1.heap.size) (h1 : w1.os = w.os) (h2 : w1.tape = w.tape) (h3 : w1.output = w.output)
    (hl : vs.length = tot * sz) (ht : tot ≤ 9223372036854775807) (hn : n ≤ tot) (hf : ∀ o,o < tot * sz → ¬ (lo ≤ o ∧ o < hi)) (hc : ∀ y ∈ vs,y.oneCell' = true)
    (hel : ∀ i,i < n → ∃ x,Cells ag x ((vs.drop (i * sz)).take sz) ∧ Rep0 S w (f i) x) (hrt : rty = 0 ∨ ty = rty:=by first | exact .inl rfl | exact rty_ok _ _ | assumption) :
    ∃ φ',Rel B ⟨s.e,(s.nx, .row false 0 ag sz n f rty) :: s.h,s.nx + 1⟩ φ' S a w1 ∧ RepV ((s.nx, .row false 0 ag sz n f rty) :: s.h) φ' S w1 (.sl s.nx 0 0 n) (.slice (some ⟨w.heap.size,0,none⟩) n tot):=by
  have hT:=turn_new hr (.row false 0 ag sz n f rty) (some (w.heap.size,tot)) (fun c t e => by cases e;rfl) (w1:=w1) h1 h2 h3 (Nat.le_of_lt hsz) hold (fun _ => hsz)
  have hk:=hT.kept hr.slt
  refine ⟨_,hT.rel hr fun x hx => ?_, ?_⟩
  · simp only [lookB,if_true,Option.some.injEq] at hx
    subst hx
    refine ⟨fun e => by simp [phUp] at e,fun c t e => ?_⟩
    simp only [phUp,if_true,Option.some.injEq,Prod.mk.injEq] at e
    obtain ⟨rfl,rfl⟩:=e
    refine ⟨fun _ h => Nat.lt_irrefl _ (hr.slt _ h),fun h => (by cases h),ht,hn,vs,ty,lo,hi,hnew,hl,⟨hf,hc⟩,fun i hi => ?_,hrt⟩
    obtain ⟨x,g1,g2⟩:=hel i hi
    exact ⟨x,g1,Rep0.mono hk (fun _ h => h) _ _ g2⟩
  · simp only [RepV]
    refine ⟨false,0,ag,sz,n,f,rty,by simp [lookB],Nat.le_refl _,fun _ => ⟨by omega,_,_,rfl,hn,fun e => by simp [phUp] at e,fun c t e => ?_⟩⟩
    simp only [phUp,if_true,Option.some.injEq,Prod.mk.injEq] at e
    obtain ⟨rfl,rfl⟩:=e
    simp
theorem row_new (hr : Rel B s φ S a w) {w1 : World} {vs : List Value} {ty : TypeId} {lo hi tot n sz : Nat} {ag : Bool} {f : Nat → D} {rty : Nat}
    (hw : w1.heap = w.heap.push (.cells ⟨vs⟩ ty (lo,hi))) (h1 : w1.os = w.os) (h2 : w1.tape = w.tape) (h3 : w1.output = w.output)
    (hl : vs.length = tot * sz) (ht : tot ≤ 9223372036854775807) (hn : n ≤ tot) (hf : ∀ o,o < tot * sz → ¬ (lo ≤ o ∧ o < hi)) (hc : ∀ y ∈ vs,y.oneCell' = true)
    (hel : ∀ i,i < n → ∃ x,Cells ag x ((vs.drop (i * sz)).take sz) ∧ Rep0 S w (f i) x) (hrt : rty = 0 ∨ ty = rty:=by first | exact .inl rfl | exact rty_ok _ _ | assumption) :
    ∃ φ',Rel B ⟨s.e,(s.nx, .row false 0 ag sz n f rty) :: s.h,s.nx + 1⟩ φ' S a w1 ∧ RepV ((s.nx, .row false 0 ag sz n f rty) :: s.h) φ' S w1 (.sl s.nx 0 0 n) (.slice (some ⟨w.heap.size,0,none⟩) n tot):=
  row_new' (ty:=ty) (lo:=lo) (hi:=hi) hr (fun k hk => by rw [hw,Array.getElem?_push,if_neg (by omega)]) (by rw [hw];simp) (by rw [hw];simp) h1 h2 h3 hl ht hn hf hc hel hrt
theorem hz_zero {t : Nat} (hk : (E.tt t).k ≠ .bad) (hz : (E.tt t).hz = true) : ∃ i d z,E.P.info? t = some i ∧ E.P.underlying t = some d ∧ i.zero = some z ∧ (E.tt t).zero = ofVal z ∧ (E.tt t).ag = agOf d ∧ (E.tt t).sz = i.size ∧ (E.tt t).bytes = i.bytes:=by
  obtain ⟨i,d,h1,h2,h3⟩:=ti_of hk
  have hz' : i.zero.isSome = true:=by rw [h3] at hz;exact hz
  obtain ⟨z,hz'⟩:=Option.isSome_iff_exists.1 hz'
  exact ⟨i,d,z,h1,h2,hz',by rw [h3];simp [hz'],by rw [h3],by rw [h3],by rw [h3]⟩
theorem made_seg (z : List Value) (n i : Nat) (hi : i < n) (hz : z ≠ []) : ((madeCells ⟨z⟩ (n * z.length)).toList.drop (i * z.length)).take z.length = z:=by
  have hpos : 0 < z.length:=List.length_pos_iff.2 hz
  have hle : i * z.length + z.length ≤ n * z.length:=by
    calc i * z.length + z.length = (i + 1) * z.length:=by rw [Nat.add_mul];omega
      _ ≤ n * z.length:=Nat.mul_le_mul_right _ hi
  apply List.ext_getElem?
  intro k
  rw [List.getElem?_take]
  by_cases hk : k < z.length
  · rw [if_pos hk,List.getElem?_drop]
    have hlt : i * z.length + k < n * z.length:=by omega
    have hmod : (i * z.length + k) % z.length = k:=by rw [Nat.add_comm,Nat.add_mul_mod_self_right,Nat.mod_eq_of_lt hk]
    simp only [madeCells,Array.toList_map,Array.toList_range,List.getElem?_map,List.getElem?_range hlt,Option.map_some,hmod]
    simp [hk,Nat.mod_eq_of_lt hk]
  · rw [if_neg hk,List.getElem?_eq_none (by omega)]
theorem made_one (z : List Value) (n : Nat) (h : ∀ y ∈ z,y.oneCell' = true) (hz : z ≠ []) : ∀ y ∈ (madeCells ⟨z⟩ n).toList,y.oneCell' = true:=by
  intro y hy
  have hpos : 0 < z.length:=List.length_pos_iff.2 hz
  simp only [madeCells,Array.toList_map,Array.toList_range,List.mem_map,List.mem_range] at hy
  obtain ⟨k,_,rfl⟩:=hy
  have hlt : k % z.length < z.length:=Nat.mod_lt _ hpos
  apply h
  simp [hlt]
theorem make_sound (hr : Rel B s φ S a w) (hev : ∀ x,RepV s.h φ S w (ev E s x) (a.eval x)) {o : Oper} {t : Nat} {l c : Operand} (ho : o.op = .makeSlice t l c) {K : D → St → Prop} (h : ef E s o.op K) : Goes E B s S a w o K:=by
  rw [ho] at h
  simp only [ef] at h
  have hl:=hev l
  have hc:=hev c
  split at h
  · rename_i e k n k' n' hk e1 e2
    obtain ⟨hz,hkb,hch,hs0,rfl,h0,h63,hby,hK⟩:=h
    rw [e1] at hl
    rw [e2] at hc
    simp only [RepV,Rep0] at hl hc
    obtain ⟨i,d,z,hi,hu,hzz,hzd,hag,hsz,hb⟩:=hz_zero hkb hz
    have hrep : RepV ([] : Hp) φ S w (E.tt e).zero z:=by rw [hzd];exact Rep0.toV _ _ (ofVal_rep z)
    obtain ⟨us,hcu,hcells,hul,h1u⟩:=chk_cells hrep hch
    have hus : us ≠ []:=fun e => by rw [e] at hul;exact hs0 hul.symm
    have hrun:=run_make (P:=E.P) w t e i z (und_slc hk) hi hzz k k' n n h0 (Int.le_refl _) (by rw [← hb,Int.mul_comm];exact hby) h63
    rw [hcu,← hsz,← hul] at hrun
    obtain ⟨φ',g1,g2⟩:=row_new hr (rty:=0) (w1:=w.alloc (.cells (madeCells ⟨us⟩ (n.toNat * us.length)) e)) (vs:=(madeCells ⟨us⟩ (n.toNat * us.length)).toList) (ty:=e) (lo:=0) (hi:=0) (tot:=n.toNat) (n:=n.toNat)
      (sz:=(E.tt e).sz) (ag:=(E.tt e).ag) (f:=fun _ => (E.tt e).zero) rfl rfl rfl rfl (by simp [size_madeCells,hul]) (by omega) (Nat.le_refl _) (by simp) (made_one us _ h1u hus)
      (fun i hi => ⟨z,by rw [← hul,made_seg us n.toNat i hi hus];exact hcells,by rw [hzd];exact ofVal_rep z⟩)
    refine ⟨_,_,φ', .value _,_,_, ?_, .inl rfl,hK,rfl,g1,g2⟩
    simp [execOp,ho,hl,hc,hrun]
  · exact h.elim
theorem bslice_sound (hr : Rel B s φ S a w) (hev : ∀ x,RepV s.h φ S w (ev E s x) (a.eval x)) {o : Oper} {t n : Nat} {ps : List (Nat × Operand)} (ho : o.op = .buildSlice t n ⟨ps⟩) {K : D → St → Prop} (h : ef E s o.op K) : Goes E B s S a w o K:=by
  rw [ho] at h
  simp only [ef] at h
  split at h
  · rename_i e hk
    obtain ⟨hkb,hz,hzch,hs0,hsm,hix,hall,hK⟩:=h
    obtain ⟨i,d,z,hi,hu,hzz,hzd,hag,hsz,hb⟩:=hz_zero hkb hz
    have hrep : RepV ([] : Hp) φ S w (E.tt e).zero z:=by rw [hzd];exact Rep0.toV _ _ (ofVal_rep z)
    obtain ⟨zs,hzcu,_,hzl,hz1⟩:=chk_cells hrep hzch
    have hzne : zs ≠ []:=fun e => by rw [e] at hzl;exact hs0 hzl.symm
    have hpl : ps.length = n:=by have:=congrArg List.length hix;simpa using this
    have hzip : (List.range' 0 (ps.map fun p => a.eval p.2).length).zip (ps.map fun p => a.eval p.2) = ps.map fun p => (p.1,a.eval p.2):=by
      rw [List.length_map,hpl,← List.range_eq_range',← hix,List.zip_map']
    have hch : ∀ p ∈ ps,chk s.h (E.tt e).ag (E.tt e).sz (ev E s p.2) = true ∧ cl (ev E s p.2) = true:=fun p hp => by
      have:=List.all_eq_true.1 hall p hp
      simpa using this
    have hzc : (madeCells z.cells (n * (E.tt e).sz)).toList.length = n * (E.tt e).sz:=by simp [size_madeCells]
    obtain ⟨cs',g1,g2,g3,_,g5⟩:=fill_row (E.tt e).sz (ps.map fun p => a.eval p.2) 0 (madeCells z.cells (n * (E.tt e).sz)).toList (fun v hv => by
      obtain ⟨p,hp,rfl⟩:=List.mem_map.1 hv
      obtain ⟨us,q1,q2,q3,q4⟩:=chk_cells (hev p.2) (hch p hp).1
      exact ⟨us,q1,q3⟩) (by rw [hzc];simp [hpl])
    rw [hzip] at g1
    have hone : ∀ y ∈ cs',y.oneCell' = true:=by
      intro y hy
      rcases g5 y hy with hy | ⟨v,hv,hy⟩
      · rw [hzcu] at hy
        exact made_one zs _ hz1 hzne y hy
      · obtain ⟨p,hp,rfl⟩:=List.mem_map.1 hv
        obtain ⟨us,q1,q2,q3,q4⟩:=chk_cells (hev p.2) (hch p hp).1
        rw [q1] at hy
        exact q4 y hy
    have hn63 : n ≤ 16777216:=by
      have : n * 1 ≤ n * (E.tt e).sz:=Nat.mul_le_mul_left _ (by omega)
      omega
    obtain ⟨φ',r1,r2⟩:=row_new hr (rty:=0) (w1:=w.alloc (.cells ⟨cs'⟩ e)) (vs:=cs') (ty:=e) (lo:=0) (hi:=0) (tot:=n) (n:=n)
      (sz:=(E.tt e).sz) (ag:=(E.tt e).ag) (f:=fun i => (ps.map fun p => ev E s p.2).getD i .unk) rfl rfl rfl rfl (by rw [g2,hzc]) (by omega) (Nat.le_refl _) (by simp) hone
      (fun i hi => by
        have hip : i < ps.length:=by omega
        obtain ⟨us,q1,q2,q3,q4⟩:=chk_cells (hev ps[i].2) (hch ps[i] (List.getElem_mem hip)).1
        have:=g3 i (a.eval ps[i].2) (by simp [hip])
        rw [q1,Nat.zero_add] at this
        refine ⟨a.eval ps[i].2, ?_, ?_⟩
        · rw [← (Array.mk.inj this)];exact q2
        · have : (ps.map fun p => ev E s p.2).getD i .unk = ev E s ps[i].2:=by simp [List.getD,hip]
          rw [this]
          exact cl_rep _ _ (hev _) (hch ps[i] (List.getElem_mem hip)).2)
    refine ⟨_,_,φ', .value _,_,_, ?_, .inl rfl,hK,rfl,r1,r2⟩
    have hps : (⟨ps⟩ : Array (Nat × Operand)).map (fun x => (x.1,a.eval x.2)) = ⟨ps.map fun p => (p.1,a.eval p.2)⟩:=by simp
    by_cases hn0 : n = 0
    · subst hn0
      obtain rfl : ps = []:=List.eq_nil_of_length_eq_zero hpl
      obtain rfl : cs' = []:=List.eq_nil_of_length_eq_zero (by rw [g2,hzc];simp)
      simp [execOp,ho,Instr.buildSlice,run_und (und_slc hk),run_size hi,Instr.fill,newRow,Array.range_zero']
    · have hrun:=run_buildSlice (P:=E.P) w t e n ⟨ps.map fun p => (p.1,a.eval p.2)⟩ ⟨cs'⟩ i z (und_slc hk) hi hzz (by rw [← hsz];omega) (by rw [← hsz];exact Nat.mul_ne_zero hn0 hs0) (by
        rw [← hsz]
        exact g1)
      simp [execOp,ho,hrun]
  · exact h.elim
end
end Go.Proofs.YtakaojkfipnfcaaGreatDoor.Lv
