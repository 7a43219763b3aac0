/- The abstract machine: what an operation looks at. The abstract machine: operations that do not see each other change places. The abstract machine: a region whose order is drawn. -/
import Derived.Test.YtakaojkfipnfcaaGreatDoorG05
set_option linter.unusedVariables false
set_option linter.unusedSimpArgs false
set_option maxRecDepth 100000
set_option maxHeartbeats 4000000
namespace Go.Proofs.YtakaojkfipnfcaaGreatDoor.Lv
open Go Go.RowKit
mutual
def blks : D → List Nat
  | .sl b _ _ _ | .ad b _ | .el b _ _ _ | .vs b _ _ _ => [b]
  | .agg cs | .fn _ cs | .tup cs => blkss cs
  | _ => []
def blkss : List D → List Nat
  | [] => []
  | d :: ds => blks d ++ blkss ds
end
def shape : Blk → Blk
  | .var ag sz d ty => .var ag sz .unk ty
  | .row fz ver ag sz n f ty => .row false ver ag sz 0 (fun _ => .unk) 0
def nofz : Blk → Blk
  | .var ag sz d ty => .var ag sz d ty
  | .row fz ver ag sz n f ty => .row false ver ag sz 0 f ty
def SameS (h h' : Hp) (b : Nat) : Prop:=(lookB h b).map shape = (lookB h' b).map shape
def Same (h h' : Hp) (b : Nat) : Prop:=(lookB h b).map nofz = (lookB h' b).map nofz
section
variable {h h' : Hp} {b : Nat}
theorem SameS.cases (e : SameS h h' b) : (lookB h b = none ∧ lookB h' b = none) ∨ (∃ ag sz d d' ty,lookB h b = some (.var ag sz d ty) ∧ lookB h' b = some (.var ag sz d' ty)) ∨
    (∃ fz fz' ver ag sz n n' f f' ty ty',lookB h b = some (.row fz ver ag sz n f ty) ∧ lookB h' b = some (.row fz' ver ag sz n' f' ty')):=by
  unfold SameS at e
  cases h1 : lookB h b with
  | none => cases h2 : lookB h' b with
    | none => exact .inl ⟨rfl,rfl⟩
    | some y => rw [h1,h2] at e;cases e
  | some x => cases h2 : lookB h' b with
    | none => rw [h1,h2] at e;cases e
    | some y =>
      rw [h1,h2] at e
      cases x <;> cases y <;> simp only [Option.map_some,shape,Option.some.injEq,Blk.var.injEq,Blk.row.injEq,reduceCtorEq,true_and,and_true] at e
      · obtain ⟨rfl,rfl,rfl⟩:=e
        exact .inr (.inl ⟨_,_,_,_,_,rfl,rfl⟩)
      · obtain ⟨rfl,rfl,rfl⟩:=e
        exact .inr (.inr ⟨_,_,_,_,_,_,_,_,_,_,_,rfl,rfl⟩)
theorem Same.cases (e : Same h h' b) : (lookB h b = none ∧ lookB h' b = none) ∨ (∃ ag sz d ty,lookB h b = some (.var ag sz d ty) ∧ lookB h' b = some (.var ag sz d ty)) ∨
    (∃ fz fz' ver ag sz n n' f ty,lookB h b = some (.row fz ver ag sz n f ty) ∧ lookB h' b = some (.row fz' ver ag sz n' f ty)):=by
  unfold Same at e
  cases h1 : lookB h b with
  | none => cases h2 : lookB h' b with
    | none => exact .inl ⟨rfl,rfl⟩
    | some y => rw [h1,h2] at e;cases e
  | some x => cases h2 : lookB h' b with
    | none => rw [h1,h2] at e;cases e
    | some y =>
      rw [h1,h2] at e
      cases x <;> cases y <;> simp only [Option.map_some,nofz,Option.some.injEq,Blk.var.injEq,Blk.row.injEq,reduceCtorEq,true_and,and_true] at e
      · obtain ⟨rfl,rfl,rfl,rfl⟩:=e
        exact .inr (.inl ⟨_,_,_,_,rfl,rfl⟩)
      · obtain ⟨rfl,rfl,rfl,rfl,rfl⟩:=e
        exact .inr (.inr ⟨_,_,_,_,_,_,_,_,_,rfl,rfl⟩)
theorem Same.toS (e : Same h h' b) : SameS h h' b:=by
  rcases e.cases with ⟨h1,h2⟩ | ⟨ag,sz,d,ty,h1,h2⟩ | ⟨fz,fz',ver,ag,sz,n,n',f,ty,h1,h2⟩ <;> simp [SameS,h1,h2,shape]
theorem Same.of_eq (e : lookB h b = lookB h' b) : Same h h' b:=by unfold Same;rw [e]
theorem cur_congr (e : SameS h h' b) (v : Nat) : cur h b v = cur h' b v:=by
  rcases e.cases with ⟨h1,h2⟩ | ⟨ag,sz,d,d',ty,h1,h2⟩ | ⟨fz,fz',ver,ag,sz,n,n',f,f',ty,ty',h1,h2⟩ <;> simp [cur,h1,h2]
theorem ldd_congr {ag : Bool} {n : Nat} {d : D} (e : ∀ b ∈ blks d,Same h h' b) : ldd h ag n d = ldd h' ag n d:=by
  cases d <;> try rfl
  case ad b off =>
    rcases (e b (by simp [blks])).cases with ⟨h1,h2⟩ | ⟨ag,sz,d,ty,h1,h2⟩ | ⟨fz,fz',ver,ag,sz,n,n',f,ty,h1,h2⟩ <;> simp [ldd,h1,h2]
  case el b ver i fo =>
    rcases (e b (by simp [blks])).cases with ⟨h1,h2⟩ | ⟨ag,sz,d,ty,h1,h2⟩ | ⟨fz,fz',ver,ag,sz,n,n',f,ty,h1,h2⟩ <;> simp [ldd,h1,h2]
theorem bstr_congr {d : D} (e : ∀ b ∈ blks d,Same h h' b) : bstr h d = bstr h' d:=by
  cases d <;> try rfl
  case sl b ver off n =>
    rcases (e b (by simp [blks])).cases with ⟨h1,h2⟩ | ⟨ag,sz,d,ty,h1,h2⟩ | ⟨fz,fz',ver,ag,sz,n,n',f,ty,h1,h2⟩ <;> simp [bstr,h1,h2]
  case vs b off esz n =>
    rcases (e b (by simp [blks])).cases with ⟨h1,h2⟩ | ⟨ag,sz,d,ty,h1,h2⟩ | ⟨fz,fz',ver,ag,sz,n,n',f,ty,h1,h2⟩ <;> simp [bstr,h1,h2]
theorem lenD_congr {k : TK} {d : D} (e : ∀ b ∈ blks d,SameS h h' b) : lenD h k d = lenD h' k d:=by
  cases k <;> cases d <;> try rfl
  rename_i b ver off n
  rcases (e b (by simp [blks])).cases with ⟨h1,h2⟩ | ⟨ag,sz,d,d',ty,h1,h2⟩ | ⟨fz,fz',ver,ag,sz,n,n',f,f',ty,ty',h1,h2⟩ <;> simp [lenD,h1,h2]
theorem sdD_congr {d : D} (e : ∀ b ∈ blks d,SameS h h' b) : sdD h d = sdD h' d:=by
  cases d <;> try rfl
  case sl b ver off n => simp only [sdD,cur_congr (e b (by simp [blks])) ver]
theorem one_congr {d : D} (e : ∀ b ∈ blks d,SameS h h' b) : one h d = one h' d:=by
  cases d <;> try rfl
  case sl b ver off n => exact cur_congr (e b (by simp [blks])) _
  case el b ver i fo => exact cur_congr (e b (by simp [blks])) _
theorem blkss_mem : ∀ {ds : List D} {d : D},d ∈ ds → ∀ b ∈ blks d,b ∈ blkss ds
  | x :: ds,d,hd,b,hb => by
    simp only [blkss,List.mem_append]
    rcases List.mem_cons.1 hd with rfl | hd
    · exact .inl hb
    · exact .inr (blkss_mem hd b hb)
theorem all_one_congr {ds : List D} (e : ∀ b ∈ blkss ds,SameS h h' b) : ds.all (one h) = ds.all (one h'):=by
  induction ds with
  | nil => rfl
  | cons d ds ih =>
    simp only [blkss,List.mem_append] at e
    simp only [List.all_cons,one_congr fun b hb => e b (.inl hb),ih fun b hb => e b (.inr hb)]
theorem cellsOf_blks {ag : Bool} {d : D} {cs : List D} (hc : cellsOf ag d = some cs) : ∀ b ∈ blkss cs,b ∈ blks d:=by
  unfold cellsOf at hc
  cases ag with
  | true =>
    simp only [if_true] at hc
    cases d <;> simp only [asAgg,Option.some.injEq,reduceCtorEq] at hc
    subst hc
    intro b hb
    simpa [blks] using hb
  | false =>
    simp only [Bool.false_eq_true,if_false,Option.some.injEq] at hc
    subst hc
    intro b hb
    simpa [blkss] using hb
theorem fits_congr {E : Ctx} : ∀ {ps : List (Nat × D)} {pl : List (Nat × Nat)},(∀ p ∈ ps,∀ b ∈ blks p.2,SameS h h' b) → fits E h ps pl = fits E h' ps pl
  | [],_,_ => rfl
  | (i,d) :: r,pl,e => by
    simp only [fits]
    rw [fits_congr (ps:=r) fun p hp => e p (List.mem_cons_of_mem _ hp)]
    cases pl[i]? with
    | none => rfl
    | some q =>
      obtain ⟨off,t⟩:=q
      simp only
      cases hc : cellsOf (E.tt t).ag d with
      | none => rfl
      | some cs => simp only [all_one_congr fun b hb => e (i,d) (by simp) b (cellsOf_blks hc b hb)]
end
def isLoad : Op → Bool
  | .load .. | .convert .. => true
  | _ => false
theorem pv_congrS {E : Ctx} {s s' : St} {op : Op} (hl : isLoad op = false) (he : ∀ x ∈ op.operands,ev E s x = ev E s' x) (hh : ∀ x ∈ op.operands,∀ b ∈ blks (ev E s x),SameS s.h s'.h b) : pv E s op = pv E s' op:=by
  cases op <;> try rfl
  case load => cases hl
  case convert => cases hl
  case move x => simp only [pv,he x (by simp [Op.operands])]
  case assign x => simp only [pv,he x (by simp [Op.operands])]
  case pick c a b => simp only [pv,he c (by simp [Op.operands]),he a (by simp [Op.operands]),he b (by simp [Op.operands])]
  case field t x i => simp only [pv,he x (by simp [Op.operands])]
  case binOp op t x y yt => simp only [pv,he x (by simp [Op.operands]),he y (by simp [Op.operands])]
  case unOp op t x => simp only [pv,he x (by simp [Op.operands])]
  case index t x i => simp only [pv,he x (by simp [Op.operands]),he i (by simp [Op.operands])]
  case extract x i => simp only [pv,he x (by simp [Op.operands])]
  case makeFunc fn first cap =>
    obtain ⟨first⟩:=first
    obtain ⟨cap⟩:=cap
    have : cap.map (ev E s) = cap.map (ev E s'):=List.map_congr_left fun x hx => he x (by simp [Op.operands,hx])
    cases fn <;> cases first <;> simp only [pv,this]
  case fieldAddr t x i =>
    have h1:=hh x (by simp [Op.operands])
    simp only [pv,← he x (by simp [Op.operands])]
    cases hx : ev E s x <;> simp only
    case el b v j fo => simp only [cur_congr (h1 b (by simp [hx,blks]))]
  case nilCheck x =>
    have h1:=hh x (by simp [Op.operands])
    simp only [pv,← he x (by simp [Op.operands])]
    cases hx : ev E s x <;> simp only
    case el b v j fo => simp only [cur_congr (h1 b (by simp [hx,blks]))]
  case slice t x lo hi mx =>
    have h1:=hh x (by simp [Op.operands])
    have hlo : lo.map (ev E s) = lo.map (ev E s'):=by cases lo with
      | none => rfl
      | some y => simp only [Option.map_some,he y (by simp [Op.operands])]
    have hhi : hi.map (ev E s) = hi.map (ev E s'):=by cases hi with
      | none => rfl
      | some y => simp only [Option.map_some,he y (by simp [Op.operands])]
    cases mx with
    | some _ => rfl
    | none =>
      simp only [pv,← he x (by simp [Op.operands]),hlo,hhi]
      cases hx : ev E s x <;> try rfl
      case sl b v off n =>
        rcases (h1 b (by simp [hx,blks])).cases with ⟨h2,h3⟩ | ⟨ag,sz,d,d',ty,h2,h3⟩ | ⟨fz,fz',ver,ag,sz,n,n',f,f',ty,ty',h2,h3⟩ <;> simp only [h2,h3]
  case indexAddr t x i =>
    have h1:=hh x (by simp [Op.operands])
    simp only [pv,← he x (by simp [Op.operands]),← he i (by simp [Op.operands])]
    generalize ev E s i = y
    generalize (E.tt t).k = k
    cases k <;> try rfl
    case slc e =>
      cases hx : ev E s x <;> (try rfl) <;> cases y <;> try rfl
      case sl.int b v off n k i' =>
        rcases (h1 b (by simp [hx,blks])).cases with ⟨h2,h3⟩ | ⟨ag,sz,d,d',ty,h2,h3⟩ | ⟨fz,fz',ver,ag,sz,n,n',f,f',ty,ty',h2,h3⟩ <;> simp only [h2,h3]
    case arr n e =>
      cases hx : ev E s x <;> (try rfl) <;> cases y <;> try rfl
      case el.int b v j off k i' =>
        simp only [cur_congr (h1 b (by simp [hx,blks]))]
  case build t ps =>
    obtain ⟨ps⟩:=ps
    have h1 : (ps.map fun p => (p.1,ev E s p.2)) = ps.map fun p => (p.1,ev E s' p.2):=List.map_congr_left fun p hp => by
      rw [he p.2 (by simp only [Op.operands,List.mem_toArray,List.mem_map];exact ⟨p,hp,rfl⟩)]
    have h2 : ∀ p ∈ (ps.map fun p => (p.1,ev E s p.2)),∀ b ∈ blks p.2,SameS s.h s'.h b:=fun p hp b hb => by
      obtain ⟨q,hq,rfl⟩:=List.mem_map.1 hp
      exact hh q.2 (by simp only [Op.operands,List.mem_toArray,List.mem_map];exact ⟨q,hq,rfl⟩) b hb
    rw [h1] at h2
    simp only [pv,h1,fits_congr h2]
  case call c =>
    obtain ⟨callee,⟨args⟩,⟨tys⟩⟩:=c
    cases callee with
    | value f => rfl
    | invoke r n => rfl
    | builtin bi =>
      cases bi <;> try rfl
      case len =>
        match args,tys with
        | [x],[t] =>
          have h1:=hh x (by simp [Op.operands,Call.operands])
          simp only [pv,← he x (by simp [Op.operands,Call.operands]),lenD_congr h1]
        | [],_ => rfl
        | _ :: _ :: _,_ => rfl
        | [_],[] => rfl
        | [_],_ :: _ :: _ => rfl
      case unsafeSliceData =>
        match args with
        | [x] =>
          have h1:=hh x (by simp [Op.operands,Call.operands])
          simp only [pv,← he x (by simp [Op.operands,Call.operands]),sdD_congr h1]
        | [] => rfl
        | _ :: _ :: _ => rfl
      case max =>
        match args with
        | [x,y] => simp only [pv,he x (by simp [Op.operands,Call.operands]),he y (by simp [Op.operands,Call.operands])]
        | [] => rfl
        | [_] => rfl
        | _ :: _ :: _ :: _ => rfl
      case min =>
        match args with
        | [x,y] => simp only [pv,he x (by simp [Op.operands,Call.operands]),he y (by simp [Op.operands,Call.operands])]
        | [] => rfl
        | [_] => rfl
        | _ :: _ :: _ :: _ => rfl
theorem pv_congr {E : Ctx} {s s' : St} {op : Op} (he : ∀ x ∈ op.operands,ev E s x = ev E s' x) (hh : ∀ x ∈ op.operands,∀ b ∈ blks (ev E s x),Same s.h s'.h b) : pv E s op = pv E s' op:=by
  cases hl : isLoad op with
  | false => exact pv_congrS hl he fun x hx b hb => (hh x hx b hb).toS
  | true =>
    cases op <;> simp only [isLoad,Bool.false_eq_true] at hl
    case load t x =>
      have h1:=hh x (by simp [Op.operands])
      simp only [pv,← he x (by simp [Op.operands]),ldd_congr h1]
    case convert src t x =>
      have h1:=hh x (by simp [Op.operands])
      simp only [pv,← he x (by simp [Op.operands])]
      have h2:=bstr_congr h1
      generalize ev E s x = d at h1 h2
      unfold conv
      generalize (E.tt t).k = k
      cases k <;> cases d <;> try simp only [h2]
      all_goals
        rename_i b off
        rcases (h1 b (by simp [blks])).cases with ⟨g1,g2⟩ | ⟨ag,sz,d,ty,g1,g2⟩ | ⟨fz,fz',ver,ag,sz,n,n',f,ty,g1,g2⟩ <;> simp only [g1,g2] <;> (generalize (E.tt src).k = k;cases k <;> rfl)
inductive Kd where
  | pure | call | new | sto | app | oth
  deriving DecidableEq
def kd (E : Ctx) : Op → Kd
  | .call c => match c.callee with
    | .value (.func g) => if E.give g then .oth else .call
    | .value _ => .oth
    | .builtin .len | .builtin .min | .builtin .max | .builtin .unsafeSliceData => .pure
    | .builtin .append => .app
    | _ => .oth
  | .box .. | .alloc .. | .makeSlice .. | .buildSlice .. => .new
  | .store .. => .sto
  | .convert _ t _ => match (E.tt t).k with
    | .slc _ => .new
    | _ => .pure
  | .move .. | .assign .. | .pick .. | .load .. | .fieldAddr .. | .field .. | .nilCheck .. | .binOp .. | .unOp .. | .slice .. | .indexAddr .. | .index .. | .extract .. | .makeFunc .. | .build .. => .pure
  | _ => .oth
def HRel (k : Kd) (h : Hp) (nx : Nat) (h' : Hp) : Prop:=match k with
  | .pure => h' = h
  | .call => ∀ b,b < nx → Same h h' b
  | .new => ∀ b,b ≠ nx → lookB h b = lookB h' b
  | .sto => ∀ b,SameS h h' b
  | .app => ∀ b ag sz d ty,b ≠ nx → lookB h b = some (.var ag sz d ty) → lookB h' b = some (.var ag sz d ty)
  | .oth => True
theorem HRel.refl (k : Kd) (h : Hp) (nx : Nat) : HRel k h nx h:=by cases k <;> first | (simp [HRel,Same,SameS];done) | exact fun _ _ _ _ _ h => h
def Agree (E : Ctx) (op : Op) (s : St) (e' : Nat → D) : Prop:=∀ x ∈ op.operands,ev E s x = ev E ⟨e',s.h,s.nx⟩ x
theorem same_frz (bs : List Nat) (h : Hp) (b : Nat) : Same h (frz bs h) b:=by
  unfold Same
  rw [lookB_frz]
  cases lookB h b with
  | none => rfl
  | some x => cases x <;> rfl
theorem Same.trans' {h h' h'' : Hp} {b : Nat} (e : Same h h' b) (e' : Same h' h'' b) : Same h h'' b:=Eq.trans e e'
theorem sameS_up_var {h : Hp} {b : Nat} {ag : Bool} {sz ty : Nat} {d d' : D} (hl : lookB h b = some (.var ag sz d ty)) (b' : Nat) : SameS h (up h b (.var ag sz d' ty)) b':=by
  unfold SameS
  rw [lookB_up]
  by_cases e : b' = b
  · subst e;simp [hl,shape]
  · simp [e]
theorem sameS_up_row {h : Hp} {b : Nat} {fz fz' : Bool} {ver : Nat} {ag : Bool} {sz n n' ty ty' : Nat} {f f' : Nat → D} (hl : lookB h b = some (.row fz ver ag sz n f ty)) (b' : Nat) : SameS h (up h b (.row fz' ver ag sz n' f' ty')) b':=by
  unfold SameS
  rw [lookB_up]
  by_cases e : b' = b
  · subst e;simp [hl,shape]
  · simp [e]
theorem new_look (h : Hp) (nx : Nat) (x : Blk) (b : Nat) (hb : b ≠ nx) : lookB h b = lookB ((nx,x) :: h) b:=by simp [lookB,hb]
section
variable {E : Ctx} {s : St}
theorem ef_det {op : Op} {K : D → St → Prop} (h : ef E s op K) :
    (∃ d h nx,HRel (kd E op) s.h s.nx h ∧ K d ⟨s.e,h,nx⟩ ∧ ∀ e' (K' : D → St → Prop),Agree E op s e' → K' d ⟨e',h,nx⟩ → ef E ⟨e',s.h,s.nx⟩ op K') ∨
    (∃ p : Bool → Prop,p false ∧ (∀ b,p b → K (.bool b) s) ∧ ∀ e' (K' : D → St → Prop),Agree E op s e' → (∀ b,p b → K' (.bool b) ⟨e',s.h,s.nx⟩) → ef E ⟨e',s.h,s.nx⟩ op K'):=by
  cases op
  case box t x =>
    simp only [ef] at h
    obtain ⟨h1,h2,h3⟩:=h
    refine .inl ⟨_,_,_,new_look _ _ _,h3,fun e' K' ha hk => ?_⟩
    simp only [ef,← ha x (by simp [Op.operands])]
    exact ⟨h1,h2,hk⟩
  case alloc t =>
    simp only [ef] at h
    obtain ⟨h1,h2,h3⟩:=h
    exact .inl ⟨_,_,_,new_look _ _ _,h3,fun e' K' ha hk => ⟨h1,h2,hk⟩⟩
  case store t a x =>
    simp only [ef] at h
    obtain ⟨h1,h2,h3⟩:=h
    split at h3
    · rename_i b off hev
      split at h3
      · rename_i ag sz d hl
        obtain ⟨d',h4,h5⟩:=h3
        refine .inl ⟨_,_,_,sameS_up_var hl,h5,fun e' K' ha hk => ?_⟩
        simp only [ef,← ha x (by simp [Op.operands]),← ha a (by simp [Op.operands]),hev,hl]
        exact ⟨h1,h2,d',h4,hk⟩
      · exact h3.elim
    · rename_i b ver i fo hev
      split at h3
      · rename_i ver' ag sz n f ty hl
        obtain ⟨rfl,h5,d',h6,h7⟩:=h3
        refine .inl ⟨_,_,_,sameS_up_row hl,h7,fun e' K' ha hk => ?_⟩
        simp only [ef,← ha x (by simp [Op.operands]),← ha a (by simp [Op.operands]),hev,hl]
        exact ⟨h1,h2,trivial,h5,d',h6,hk⟩
      · exact h3.elim
    · exact h3.elim
  case makeSlice t l c =>
    simp only [ef] at h
    split at h
    · rename_i e k n k' n' hk hl hc
      obtain ⟨h1,h2,h3,h4,h5,h6,h7,h8,h9⟩:=h
      refine .inl ⟨_,_,_,new_look _ _ _,h9,fun e' K' ha hk' => ?_⟩
      simp only [ef,← ha l (by simp [Op.operands]),← ha c (by simp [Op.operands]),hk,hl,hc]
      exact ⟨h1,h2,h3,h4,h5,h6,h7,h8,hk'⟩
    · exact h.elim
  case buildSlice t n ps =>
    obtain ⟨ps⟩:=ps
    simp only [ef] at h
    split at h
    · rename_i e hk
      obtain ⟨h1,h2,h3,h4,h5,h6,h7,h8⟩:=h
      refine .inl ⟨_,_,_,new_look _ _ _,h8,fun e' K' ha hk' => ?_⟩
      have hm : ∀ p ∈ ps,ev E ⟨e',s.h,s.nx⟩ p.2 = ev E s p.2:=fun p hp => (ha p.2 (by simp only [Op.operands,List.mem_toArray,List.mem_map];exact ⟨p,hp,rfl⟩)).symm
      have hm1 : (ps.map fun p => ev E ⟨e',s.h,s.nx⟩ p.2) = ps.map fun p => ev E s p.2:=List.map_congr_left hm
      have hm2 : (ps.all fun p => chk s.h (E.tt e).ag (E.tt e).sz (ev E ⟨e',s.h,s.nx⟩ p.2) && cl (ev E ⟨e',s.h,s.nx⟩ p.2)) = true:=by
        rw [List.all_eq_true] at h7 ⊢
        intro p hp
        rw [hm p hp]
        exact h7 p hp
      simp only [ef,hk,hm1]
      exact ⟨h1,h2,h3,h4,h5,h6,hm2,hk'⟩
    · exact h.elim
  case convert src t x =>
    simp only [ef] at h
    split at h
    · rename_i e l hs ht hx
      obtain ⟨h1,h2,h3⟩:=h
      refine .inl ⟨_,_,_, ?_,h3,fun e' K' ha hk => ?_⟩
      · simp only [kd,ht]
        exact new_look _ _ _
      · simp only [ef,← ha x (by simp [Op.operands]),hs,ht,hx]
        exact ⟨h1,h2,hk⟩
    · exact h.elim
  case binOp op t x y yt =>
    cases op
    case eql =>
      simp only [ef] at h
      split at h
      · rename_i e hk hx hy
        refine .inl ⟨_,_,_,rfl,h,fun e' K' ha hk' => ?_⟩
        simp only [ef,← ha x (by simp [Op.operands]),← ha y (by simp [Op.operands]),hk,hx,hy]
        exact hk'
      · rename_i e ag sz n f hk hx hy
        refine .inr ⟨fun b => b = true → n = 0,by simp,h,fun e' K' ha hk' => ?_⟩
        simp only [ef,← ha x (by simp [Op.operands]),← ha y (by simp [Op.operands]),hk,hx,hy]
        exact hk'
      · exact h.elim
    all_goals exact (show False from h).elim
  case call c =>
    have h':=h
    unfold ef at h'
    split at h' <;> first | (rename_i e;cases e) | exact h'.elim
    rotate_left
    · rename_i x y t u
      simp only [ef] at h
      split at h
      · rename_i e b ver k h1 hx hy
        split at h
        · rename_i ver' m f ty hl
          obtain ⟨rfl,rfl,k1,k2,k3,k4,k5,l,k6,k7,k8⟩:=h
          refine .inl ⟨_,_,_,trivial,k8,fun e' K' ha hk => ?_⟩
          have a1 : ev E ⟨e',s.h,s.nx⟩ x = ev E s x:=(ha x (by simp [Op.operands,Call.operands])).symm
          have a2 : ev E ⟨e',s.h,s.nx⟩ y = ev E s y:=(ha y (by simp [Op.operands,Call.operands])).symm
          simp only [ef,a1,a2,h1,hx,hy,hl]
          exact ⟨trivial,trivial,k1,k2,k3,k4,k5,l,k6,k7,hk⟩
        · exact h.elim
      · exact h.elim
    rename_i x y t u
    simp only [ef] at h
    split at h
    · rename_i e m g k h1 h3
      obtain ⟨k1,k2,k3,k4,k5,k6,h⟩:=h
      have rerun : ∀ {e' : Nat → D} {K' : D → St → Prop},Agree E (.call { callee:=.builtin .append,args:=#[x,y],argTypes:=#[t,u] }) s e' →
          (ev E ⟨e',s.h,s.nx⟩ x = ev E s x) ∧ (ev E ⟨e',s.h,s.nx⟩ y = ev E s y):=fun ha => ⟨(ha x (by simp [Op.operands,Call.operands])).symm,(ha y (by simp [Op.operands,Call.operands])).symm⟩
      split at h
      · rename_i hx
        obtain ⟨h4,h5,h6⟩:=h
        refine .inl ⟨_,_,_,fun c ag' sz' d' ty' hc hlc => (by rw [← new_look _ _ _ _ hc];exact hlc),h6,fun e' K' ha hk => ?_⟩
        obtain ⟨a1,a2⟩:=rerun (K':=K') ha
        simp only [ef,a1,a2,h1,h3,hx]
        exact ⟨k1,k2,k3,k4,k5,k6,h4,h5,hk⟩
      · rename_i b ver n hx
        split at h
        · rename_i ver' ag sz n' f ty hl
          obtain ⟨rfl,rfl,rfl,h4,h5,h6⟩:=h
          refine .inl ⟨_,_,_,fun c ag' sz' d' ty' hc hlc => ?_,h6,fun e' K' ha hk => ?_⟩
          · have hcb : c ≠ b:=fun e => by subst e;rw [hl] at hlc;cases hlc
            rw [lookB_up];simp [hcb,hlc]
          obtain ⟨a1,a2⟩:=rerun (K':=K') ha
          simp only [ef,a1,a2,h1,h3,hx,hl]
          exact ⟨k1,k2,k3,k4,k5,k6,trivial,trivial,trivial,h4,h5,hk⟩
        · exact h.elim
      · exact h.elim
    · exact h.elim
  all_goals exact (show False from h).elim
def Det (A : (St → Prop) → St → Prop) (ag : (Nat → D) → Prop) (k : Kd) (dst : Option Nat) (K : St → Prop) (s : St) : Prop:=
    (∃ d h nx,HRel k s.h s.nx h ∧ K ((⟨s.e,h,nx⟩ : St).put dst d) ∧ ∀ e' K',ag e' → K' ((⟨e',h,nx⟩ : St).put dst d) → A K' ⟨e',s.h,s.nx⟩) ∨
    (∃ p : Bool → Prop,p false ∧ (∀ b,p b → K (s.put dst (.bool b))) ∧ ∀ e' K',ag e' → (∀ b,p b → K' ((⟨e',s.h,s.nx⟩ : St).put dst (.bool b))) → A K' ⟨e',s.h,s.nx⟩)
theorem AX_det {o : Oper} {K : St → Prop} (h : AX E o K s) : Det (AX E o) (Agree E o.op s) (kd E o.op) o.dst K s:=by
  have simple : (∀ K s',AX E o K s' = ork (pv E s' o.op) (KP K s' o.dst) (ef E s' o.op (KT K o.dst))) → Det (AX E o) (Agree E o.op s) (kd E o.op) o.dst K s:=by
    intro hAX
    rw [hAX] at h
    have hpv : ∀ e',Agree E o.op s e' → pv E ⟨e',s.h,s.nx⟩ o.op = pv E s o.op:=fun e' ha => (pv_congr ha fun x hx b hb => Same.of_eq rfl).symm
    unfold ork at h
    split at h
    · rename_i d hd
      refine .inl ⟨d,s.h,s.nx,HRel.refl _ _ _,h,fun e' K' ha hk => ?_⟩
      rw [hAX,hpv e' ha,hd]
      exact hk
    · rename_i hd
      rcases ef_det h with ⟨d,h1,nx,h2,h3,h4⟩ | ⟨p,h1,h2,h3⟩
      · refine .inl ⟨d,h1,nx,h2,h3,fun e' K' ha hk => ?_⟩
        rw [hAX,hpv e' ha,hd]
        exact h4 e' _ ha hk
      · refine .inr ⟨p,h1,h2,fun e' K' ha hk => ?_⟩
        rw [hAX,hpv e' ha,hd]
        exact h3 e' _ ha hk
  by_cases hc : ∃ f xs ts,o.op = .call { callee:=.value f,args:=⟨xs⟩,argTypes:=ts }
  · obtain ⟨f,xs,ts,ho⟩:=hc
    unfold AX at h
    rw [ho] at h
    simp only at h
    split at h
    · rename_i g cap hf
      have hx : ∀ e',Agree E o.op s e' → ev E ⟨e',s.h,s.nx⟩ f = .fn g cap ∧ xs.map (ev E ⟨e',s.h,s.nx⟩) = xs.map (ev E s):=fun e' ha => by
        rw [ho] at ha
        exact ⟨(ha f (by simp [Op.operands,Call.operands])).symm.trans hf,List.map_congr_left fun x hx => (ha x (by simp [Op.operands,Call.operands,hx])).symm⟩
      rcases h with ⟨bs,d,h',h0,h1,h2,h3⟩ | ⟨bs,d,h1,h2,h3,h4,h5⟩ | ⟨h1,d,h2,h3⟩
      · refine .inl ⟨exD (ex bs s.nx) d,_,_, ?_,h3,fun e' K' ha hk => ?_⟩
        · rw [ho]
          cases f with
          | tmp => simp [kd,HRel]
          | const => simp [kd,HRel]
          | global => simp [kd,HRel]
          | func g' =>
          simp only [ev,D.fn.injEq] at hf
          obtain ⟨rfl,rfl⟩:=hf
          cases hg : E.give g' with
          | true => simp [kd,hg,HRel]
          | false =>
            obtain rfl : bs = []:=h0.resolve_left (by rw [hg];simp)
            simp only [kd,hg,Bool.false_eq_true,if_false,HRel]
            intro b hb
            refine (same_frz (if (flat d && h'.isEmpty) = true then [] else fsOf s [] (xs.map (ev E s) ++ [])) s.h b).trans' (Same.of_eq ?_)
            exact (mrg_out h' _ fun i y _ e => by simp only [ex,List.length_nil] at e;rw [if_neg (by omega)] at e;omega).symm
        · obtain ⟨a1,a2⟩:=hx e' ha
          unfold AX
          rw [ho]
          simp only [a1,a2]
          exact .inl ⟨bs,d,h',h0,h1,h2,hk⟩
      · refine .inl ⟨d,s.h,s.nx,HRel.refl _ _ _,h5,fun e' K' ha hk => ?_⟩
        obtain ⟨a1,a2⟩:=hx e' ha
        unfold AX
        rw [ho]
        simp only [a1,a2]
        exact .inr (.inl ⟨bs,d,h1,h2,h3,h4,hk⟩)
      · refine .inl ⟨d,s.h,s.nx,HRel.refl _ _ _,h3,fun e' K' ha hk => ?_⟩
        obtain ⟨a1,a2⟩:=hx e' ha
        unfold AX
        rw [ho]
        simp only [a1,a2]
        exact .inr (.inr ⟨h1,d,h2,hk⟩)
    · exact h.elim
  · refine simple fun K s' => ?_
    unfold AX
    split
    · rename_i f xs ts ho
      exact (hc ⟨_,_,_,ho⟩).elim
    · rfl
def AgreeT (E : Ctx) (ops : Array Oper) (o : Oper) (s : St) (e' : Nat → D) : Prop:=
  Agree E o.op s e' ∧ ∀ g want t,o.guard = some (g,want) → (ops[g]?).bind (·.dst) = some t → s.e t = e' t
theorem AT_det {ops : Array Oper} {o : Oper} {K : St → Prop} (h : AT E ops o K s) : Det (AT E ops o) (AgreeT E ops o s) (kd E o.op) o.dst K s:=by
  unfold AT at h
  split at h
  · rename_i hg
    have e : ∀ K s',AT E ops o K s' = AX E o K s':=fun K s' => by unfold AT;rw [hg]
    rcases AX_det h with ⟨d,h1,nx,h2,h3,h4⟩ | ⟨p,h1,h2,h3⟩
    · exact .inl ⟨d,h1,nx,h2,h3,fun e' K' ha hk => by rw [e];exact h4 e' K' ha.1 hk⟩
    · exact .inr ⟨p,h1,h2,fun e' K' ha hk => by rw [e];exact h3 e' K' ha.1 hk⟩
  · rename_i g want hg
    split at h
    · rename_i t ht
      have e : ∀ K s',AT E ops o K s' = gd (s'.e t) want (AX E o K s') (K (s'.put o.dst (.tup []))):=fun K s' => by unfold AT;rw [hg];simp only [ht]
      unfold gd at h
      split at h
      · rename_i b hb
        by_cases hw : b = want
        · have hgd : ∀ (e' : Nat → D) K',e' t = .bool b → AX E o K' ⟨e',s.h,s.nx⟩ → gd (e' t) want (AX E o K' ⟨e',s.h,s.nx⟩) (K' ((⟨e',s.h,s.nx⟩ : St).put o.dst (.tup []))):=fun e' K' he hx => by
            rw [he];exact ⟨fun _ => hx,fun hn => (hn hw).elim⟩
          rcases AX_det (h.1 hw) with ⟨d,h1,nx,h2,h3,h4⟩ | ⟨p,h1,h2,h3⟩
          · exact .inl ⟨d,h1,nx,h2,h3,fun e' K' ha hk => by rw [e];exact hgd e' K' ((ha.2 g want t hg ht).symm.trans hb) (h4 e' K' ha.1 hk)⟩
          · exact .inr ⟨p,h1,h2,fun e' K' ha hk => by rw [e];exact hgd e' K' ((ha.2 g want t hg ht).symm.trans hb) (h3 e' K' ha.1 hk)⟩
        · refine .inl ⟨.tup [],s.h,s.nx,HRel.refl _ _ _,h.2 hw,fun e' K' ha hk => ?_⟩
          rw [e]
          show gd (e' t) want _ _
          rw [← ha.2 g want t hg ht,hb]
          exact ⟨fun hn => (hw hn).elim,fun _ => hk⟩
      · rename_i ds hb
        refine .inl ⟨.tup [],s.h,s.nx,HRel.refl _ _ _,h,fun e' K' ha hk => ?_⟩
        rw [e]
        show gd (e' t) want _ _
        rw [← ha.2 g want t hg ht,hb]
        exact hk
      · exact h.elim
    · exact h.elim
def isP (E : Ctx) (op : Op) : Bool:=(kd E op == .pure) && match op with
  | .binOp .eql t _ _ _ => match (E.tt t).k with
    | .slc _ => false
    | _ => true
  | _ => true
def pvG (E : Ctx) (ops : Array Oper) (o : Oper) (s : St) : Option D:=match o.guard with
  | none => pv E s o.op
  | some (g,want) => match (ops[g]?).bind (·.dst) with
    | some t => match s.e t with
      | .bool b => if b = want then pv E s o.op else some (.tup [])
      | .tup _ => some (.tup [])
      | _ => none
    | none => none
theorem ef_pure {op : Op} (hp : isP E op = true) (K : D → St → Prop) : ¬ ef E s op K:=by
  intro h
  cases op <;> try exact h
  case box => simp [isP,kd] at hp
  case alloc => simp [isP,kd] at hp
  case store => simp [isP,kd] at hp
  case makeSlice => simp [isP,kd] at hp
  case buildSlice => simp [isP,kd] at hp
  case convert src t x =>
    simp only [ef] at h
    split at h
    · rename_i e l hs ht hx
      simp [isP,kd,ht] at hp
    · exact h
  case binOp op t x y yt =>
    cases op <;> try exact h
    simp only [ef] at h
    split at h
    · rename_i e hk hx hy
      simp [isP,kd,hk] at hp
    · rename_i hk hx hy
      simp [isP,kd,hk] at hp
    · exact h
  case call c =>
    have h':=h
    unfold ef at h'
    split at h' <;> first | (rename_i e;cases e) | exact h'.elim
    all_goals simp [isP,kd] at hp
theorem AX_pure {o : Oper} (hp : isP E o.op = true) (K : St → Prop) : AX E o K s ↔ ∃ d,pv E s o.op = some d ∧ K (s.put o.dst d):=by
  have hc : ∀ f xs ts,o.op ≠ .call { callee:=.value f,args:=⟨xs⟩,argTypes:=ts }:=fun f xs ts e => by
    rw [e] at hp
    cases f with
    | func g => cases hg : E.give g <;> simp [isP,kd,hg] at hp
    | tmp => simp [isP,kd] at hp
    | const => simp [isP,kd] at hp
    | global => simp [isP,kd] at hp
  have : AX E o K s = ork (pv E s o.op) (KP K s o.dst) (ef E s o.op (KT K o.dst)):=by
    unfold AX
    split
    · rename_i f xs ts ho
      exact (hc _ _ _ ho).elim
    · rfl
  rw [this]
  unfold ork
  cases hpv : pv E s o.op with
  | none => simp [ef_pure hp]
  | some d => simp [KP]
theorem AT_pure {ops : Array Oper} {o : Oper} (hp : isP E o.op = true) (K : St → Prop) : AT E ops o K s ↔ ∃ d,pvG E ops o s = some d ∧ K (s.put o.dst d):=by
  unfold AT pvG
  cases hg : o.guard with
  | none => exact AX_pure hp K
  | some q =>
    obtain ⟨g,want⟩:=q
    simp only
    cases ht : (ops[g]?).bind (·.dst) with
    | none => simp
    | some t =>
      simp only
      cases he : s.e t <;> simp only [gd,reduceCtorEq,false_and,exists_false]
      case bool b =>
        by_cases hw : b = want
        · simp [hw,AX_pure hp K]
        · simp [hw]
      case tup ds => simp
end
def isR : Op → Bool
  | .move .. | .assign .. | .pick .. | .field .. | .binOp .. | .unOp .. | .index .. | .extract .. | .makeFunc .. => true
  | .call c => match c.callee with
    | .builtin .min | .builtin .max => true
    | _ => false
  | _ => false
def okP (E : Ctx) (x y : Op) : Bool:=isP E x && match kd E y with
  | .pure | .call | .new => true
  | .sto => isR x || !isLoad x
  | .oth | .app => isR x
def okPair (E : Ctx) (ops : Array Oper) (x y : Oper) : Bool:=x.apart ops y && (okP E x.op y.op || okP E y.op x.op)
section
variable {E : Ctx} {B : Base} {s : St} {ops : Array Oper}
theorem pv_R {s s' : St} {op : Op} (hr : isR op = true) (he : ∀ x ∈ op.operands,ev E s x = ev E s' x) : pv E s op = pv E s' op:=by
  cases op <;> simp only [isR,Bool.false_eq_true] at hr
  case move x => simp only [pv,he x (by simp [Op.operands])]
  case assign x => simp only [pv,he x (by simp [Op.operands])]
  case pick c a b => simp only [pv,he c (by simp [Op.operands]),he a (by simp [Op.operands]),he b (by simp [Op.operands])]
  case field t x i => simp only [pv,he x (by simp [Op.operands])]
  case binOp op t x y yt => simp only [pv,he x (by simp [Op.operands]),he y (by simp [Op.operands])]
  case unOp op t x => simp only [pv,he x (by simp [Op.operands])]
  case index t x i => simp only [pv,he x (by simp [Op.operands]),he i (by simp [Op.operands])]
  case extract x i => simp only [pv,he x (by simp [Op.operands])]
  case makeFunc fn first cap =>
    obtain ⟨first⟩:=first
    obtain ⟨cap⟩:=cap
    have : cap.map (ev E s) = cap.map (ev E s'):=List.map_congr_left fun x hx => he x (by simp [Op.operands,hx])
    cases fn <;> cases first <;> simp only [pv,this]
  case call c =>
    obtain ⟨callee,⟨args⟩,⟨tys⟩⟩:=c
    cases callee with
    | value f => cases hr
    | invoke r n => cases hr
    | builtin bi =>
      cases bi <;> simp only [Bool.false_eq_true] at hr
      all_goals
        match args with
        | [x,y] => simp only [pv,he x (by simp [Op.operands,Call.operands]),he y (by simp [Op.operands,Call.operands])]
        | [] => rfl
        | [_] => rfl
        | _ :: _ :: _ :: _ => rfl
mutual
theorem blks_some {H : Hp} {φ : Ph} {S : Nat → Prop} {w : World} : ∀ (d : D) (v : Value),RepV H φ S w d v → ∀ b ∈ blks d,∃ x,lookB H b = some x
  | .int ..,_,_,_,hb | .bool ..,_,_,_,hb | .str ..,_,_,_,hb | .nilp,_,_,_,hb | .nils,_,_,_,hb | .nilm,_,_,_,hb | .nilf,_,_,_,hb | .gl ..,_,_,_,hb | .unk,_,_,_,hb | .ro ..,_,_,_,hb | .ra ..,_,_,_,hb => by simp [blks] at hb
  | .sl b' ver off n,v,h,b,hb => by
    simp only [blks,List.mem_singleton] at hb
    subst hb
    simp only [RepV] at h
    obtain ⟨fz,ver',ag,sz,m,f,ty,hl,_⟩:=h
    exact ⟨_,hl⟩
  | .ad b' off,v,h,b,hb => by
    simp only [blks,List.mem_singleton] at hb
    subst hb
    simp only [RepV] at h
    obtain ⟨ag,sz,d,ty,c,t,hl,_⟩:=h
    exact ⟨_,hl⟩
  | .el b' ver i fo,v,h,b,hb => by
    simp only [blks,List.mem_singleton] at hb
    subst hb
    simp only [RepV] at h
    obtain ⟨fz,ver',ag,sz,m,f,ty,hl,_⟩:=h
    exact ⟨_,hl⟩
  | .vs b' off esz n,v,h,b,hb => by
    simp only [blks,List.mem_singleton] at hb
    subst hb
    simp only [RepV] at h
    obtain ⟨ag,sz,d,ty,c,t,a,cap,hl,_⟩:=h
    exact ⟨_,hl⟩
  | .agg cs,v,h,b,hb => by
    simp only [RepV,blks] at h hb
    obtain ⟨vs,e,h⟩:=h
    exact blkss_some cs vs h b hb
  | .tup cs,v,h,b,hb => by
    simp only [RepV,blks] at h hb
    obtain ⟨vs,e,h⟩:=h
    exact blkss_some cs vs h b hb
  | .fn f cs,v,h,b,hb => by
    simp only [RepV,blks] at h hb
    obtain ⟨vs,e,h⟩:=h
    exact blkss_some cs vs h b hb
theorem blkss_some {H : Hp} {φ : Ph} {S : Nat → Prop} {w : World} : ∀ (ds : List D) (vs : List Value),RepVs H φ S w ds vs → ∀ b ∈ blkss ds,∃ x,lookB H b = some x
  | [],vs,h,b,hb => by simp [blkss] at hb
  | d :: ds,vs,h,b,hb => by
    simp only [RepVs,blkss,List.mem_append] at h hb
    obtain ⟨v,vs',e,h1,h2⟩:=h
    rcases hb with hb | hb
    · exact blks_some d v h1 b hb
    · exact blkss_some ds vs' h2 b hb
end
theorem ev_blks (hB : BOK E B) (hL : Live B s) (x : Operand) : ∀ b ∈ blks (ev E s x),b < s.nx:=fun b hb => by
  obtain ⟨φ,S,a,w,hr⟩:=hL
  obtain ⟨y,hy⟩:=blks_some _ _ (hr.ev (hB.gok hr) x) b hb
  exact hr.nx b y hy
theorem pvG_stable {x : Oper} {y : Op} (hok : okP E x.op y = true) (hB : BOK E B) (hL : Live B s) {h : Hp} (hh : HRel (kd E y) s.h s.nx h) {e' : Nat → D} {nx : Nat}
    (ha : ∀ z ∈ x.op.operands,ev E s z = ev E ⟨e',h,nx⟩ z) (hg : ∀ g want t,x.guard = some (g,want) → (ops[g]?).bind (·.dst) = some t → s.e t = e' t) : pvG E ops x ⟨e',h,nx⟩ = pvG E ops x s:=by
  have key : pv E s x.op = pv E ⟨e',h,nx⟩ x.op:=by
    simp only [okP,Bool.and_eq_true] at hok
    obtain ⟨_,hok⟩:=hok
    cases hk : kd E y <;> rw [hk] at hok hh <;> simp only [HRel] at hh
    case pure => subst hh;exact pv_congr ha fun z hz b hb => Same.of_eq rfl
    case call => exact pv_congr ha fun z hz b hb => hh b (ev_blks hB hL z b hb)
    case new => exact pv_congr ha fun z hz b hb => Same.of_eq (hh b (Nat.ne_of_lt (ev_blks hB hL z b hb)))
    case sto =>
      simp only [Bool.or_eq_true,Bool.not_eq_true'] at hok
      rcases hok with hok | hok
      · exact pv_R hok ha
      · exact pv_congrS hok ha fun z hz b hb => hh b
    case oth => exact pv_R hok ha
    case app => exact pv_R hok ha
  unfold pvG
  cases hgu : x.guard with
  | none => exact key.symm
  | some q =>
    obtain ⟨g,want⟩:=q
    simp only
    cases ht : (ops[g]?).bind (·.dst) with
    | none => rfl
    | some t =>
      simp only
      rw [← hg g want t hgu ht,key]
theorem put_swap (e : Nat → D) (h h' : Hp) (nx nx' : Nat) {x y : Option Nat} (hne : ∀ d,x = some d → y ≠ some d) (dx dy : D) :
    ((⟨(St.put ⟨e,h',nx'⟩ x dx).e,h,nx⟩ : St).put y dy) = ((⟨e,h,nx⟩ : St).put y dy).put x dx:=by
  cases x with
  | none => cases y <;> rfl
  | some tx =>
    cases y with
    | none => rfl
    | some ty =>
      have : tx ≠ ty:=fun e => hne tx rfl (by rw [e])
      simp only [St.put,St.mk.injEq,and_true]
      funext t
      simp only [upd]
      by_cases h1 : t = ty <;> by_cases h2 : t = tx <;> simp_all
theorem agree_put {op : Op} {dst : Option Nat} {d : D} {h h' : Hp} {nx nx' : Nat} {e : Nat → D} (hn : ∀ t,dst = some t → (Operand.tmp t) ∉ op.operands) : ∀ z ∈ op.operands,ev E ⟨e,h,nx⟩ z = ev E (St.put ⟨e,h',nx'⟩ dst d) z:=fun z hz => by
  cases dst with
  | none => cases z <;> rfl
  | some t =>
    cases z with
    | tmp t' =>
      have : t' ≠ t:=fun e => hn t rfl (e ▸ hz)
      simp [ev,St.put,upd,this]
    | _ => rfl
theorem looks_operand {o : Oper} {t : Nat} (h : t ∉ o.looksAt ops) : (Operand.tmp t) ∉ o.op.operands:=fun hm => h (List.mem_append_left _ (List.mem_filterMap.2 ⟨.tmp t,by simpa using hm,rfl⟩))
theorem looks_guard {o : Oper} {g : Nat} {want : Bool} {t : Nat} (hg : o.guard = some (g,want)) (ht : (ops[g]?).bind (·.dst) = some t) : t ∈ o.looksAt ops:=
  List.mem_append_right _ (by simp [hg,ht])
theorem agreeT_put {o : Oper} {dst : Option Nat} (hn : ∀ t,dst = some t → t ∉ o.looksAt ops) (d : D) {h h' : Hp} {nx nx' : Nat} {e : Nat → D} : AgreeT E ops o ⟨e,h,nx⟩ (St.put ⟨e,h',nx'⟩ dst d).e:=
  ⟨fun z hz => by
    have:=agree_put (E:=E) (op:=o.op) (dst:=dst) (d:=d) (h:=h) (nx:=nx) (h':=h') (nx':=nx') (e:=e) (fun t ht => looks_operand (hn t ht)) z hz
    cases z <;> exact this,
   fun g want t hg ht => by
    cases dst with
    | none => rfl
    | some t' =>
      have : t ≠ t':=fun e => hn t' rfl (e ▸ looks_guard hg ht)
      simp [St.put,upd,this]⟩
theorem comm1 {x y : Oper} (hap : x.apart ops y = true) (hok : okP E x.op y.op = true) (hB : BOK E B) (hL : Live B s) {K : St → Prop} (h : AT E ops x (AT E ops y K) s) : AT E ops y (AT E ops x K) s:=by
  obtain ⟨a1,a2,a3⟩:=Oper.apart_spec hap
  have hp : isP E x.op = true:=by simp only [okP,Bool.and_eq_true] at hok;exact hok.1
  obtain ⟨dx,hpx,hy⟩:=(AT_pure hp _).1 h
  have hs : ∀ (h1 : Hp) (nx : Nat) (dy : D),HRel (kd E y.op) s.h s.nx h1 → pvG E ops x ((⟨s.e,h1,nx⟩ : St).put y.dst dy) = some dx:=fun h1 nx dy hh => by
    rw [← hpx]
    have : ((⟨s.e,h1,nx⟩ : St).put y.dst dy) = ⟨((⟨s.e,h1,nx⟩ : St).put y.dst dy).e,h1,nx⟩:=by cases y.dst <;> rfl
    rw [this]
    have ag:=agreeT_put (E:=E) (o:=x) (ops:=ops) (dst:=y.dst) a3 dy (h:=s.h) (h':=h1) (nx:=s.nx) (nx':=nx) (e:=s.e)
    refine pvG_stable hok hB hL hh (fun z hz => ?_) ag.2
    have:=ag.1 z hz
    cases z <;> exact this
  have hb : (s.put x.dst dx).h = s.h ∧ (s.put x.dst dx).nx = s.nx:=⟨St.put_h ..,St.put_nx ..⟩
  have ag : AgreeT E ops y (s.put x.dst dx) s.e:=by
    have:=agreeT_put (E:=E) (o:=y) (ops:=ops) (dst:=x.dst) a1 dx (h:=s.h) (h':=s.h) (nx:=s.nx) (nx':=s.nx) (e:=s.e)
    refine ⟨fun z hz => ?_,fun g want t hg ht => (this.2 g want t hg ht).symm⟩
    have:=this.1 z hz
    cases z <;> exact this.symm
  rcases AT_det hy with ⟨dy,h1,nx,h2,h3,h4⟩ | ⟨p,h1,h2,h3⟩
  · rw [hb.1,hb.2] at h2
    have:=h4 s.e (AT E ops x K) ag ((AT_pure hp _).2 ⟨dx,hs h1 nx dy h2,by
      rw [← put_swap (h':=s.h) (nx':=s.nx) (hne:=a2)]
      exact h3⟩)
    rw [hb.1,hb.2] at this
    exact this
  · have:=h3 s.e (AT E ops x K) ag fun b hbp => (AT_pure hp _).2 ⟨dx,by
      rw [hb.1,hb.2]
      exact hs s.h s.nx (.bool b) (HRel.refl _ _ _),by
      rw [hb.1,hb.2]
      rw [← put_swap (h':=s.h) (nx':=s.nx) (hne:=a2)]
      have:=h2 b hbp
      rw [show (s.put x.dst dx) = ⟨(s.put x.dst dx).e,s.h,s.nx⟩ by cases x.dst <;> rfl] at this
      exact this⟩
    rw [hb.1,hb.2] at this
    exact this
theorem comm2 {x y : Oper} (hap : y.apart ops x = true) (hok : okP E x.op y.op = true) (hB : BOK E B) (hL : Live B s) {K : St → Prop} (h : AT E ops y (AT E ops x K) s) : AT E ops x (AT E ops y K) s:=by
  obtain ⟨a1,a2,a3⟩:=Oper.apart_spec hap
  have hp : isP E x.op = true:=by simp only [okP,Bool.and_eq_true] at hok;exact hok.1
  have a2' : ∀ d,x.dst = some d → y.dst ≠ some d:=fun d hx hy => a2 d hy hx
  have hs : ∀ (h1 : Hp) (nx : Nat) (dy : D),HRel (kd E y.op) s.h s.nx h1 → pvG E ops x ((⟨s.e,h1,nx⟩ : St).put y.dst dy) = pvG E ops x s:=fun h1 nx dy hh => by
    have : ((⟨s.e,h1,nx⟩ : St).put y.dst dy) = ⟨((⟨s.e,h1,nx⟩ : St).put y.dst dy).e,h1,nx⟩:=by cases y.dst <;> rfl
    rw [this]
    have ag:=agreeT_put (E:=E) (o:=x) (ops:=ops) (dst:=y.dst) a1 dy (h:=s.h) (h':=h1) (nx:=s.nx) (nx':=nx) (e:=s.e)
    refine pvG_stable hok hB hL hh (fun z hz => ?_) ag.2
    have:=ag.1 z hz
    cases z <;> exact this
  have ag : ∀ dx,AgreeT E ops y s (s.put x.dst dx).e:=fun dx => by
    have:=agreeT_put (E:=E) (o:=y) (ops:=ops) (dst:=x.dst) a3 dx (h:=s.h) (h':=s.h) (nx:=s.nx) (nx':=s.nx) (e:=s.e)
    exact this
  have fin : ∀ dx,AT E ops y K ⟨(s.put x.dst dx).e,s.h,s.nx⟩ → AT E ops y K (s.put x.dst dx):=fun dx h => by
    rwa [show (s.put x.dst dx) = ⟨(s.put x.dst dx).e,s.h,s.nx⟩ by cases x.dst <;> rfl]
  rcases AT_det h with ⟨dy,h1,nx,h2,h3,h4⟩ | ⟨p,h1,h2,h3⟩
  · obtain ⟨dx,h5,h6⟩:=(AT_pure hp _).1 h3
    rw [hs h1 nx dy h2] at h5
    refine (AT_pure hp _).2 ⟨dx,h5,fin dx (h4 _ K (ag dx) ?_)⟩
    have:=put_swap s.e h1 s.h nx s.nx (x:=x.dst) (y:=y.dst) a2' dx dy
    rw [show (St.put s x.dst dx).e = (St.put ⟨s.e,s.h,s.nx⟩ x.dst dx).e from rfl,this]
    exact h6
  · obtain ⟨dx,h5,_⟩:=(AT_pure hp _).1 (h2 false h1)
    have h5' : pvG E ops x s = some dx:=(hs s.h s.nx (.bool false) (HRel.refl _ _ _)).symm.trans h5
    refine (AT_pure hp _).2 ⟨dx,h5',fin dx (h3 _ K (ag dx) fun b hb => ?_)⟩
    obtain ⟨dx',h6,h7⟩:=(AT_pure hp _).1 (h2 b hb)
    have : pvG E ops x s = some dx':=(hs s.h s.nx (.bool b) (HRel.refl _ _ _)).symm.trans h6
    rw [h5'] at this
    cases this
    have:=put_swap s.e s.h s.h s.nx s.nx (x:=x.dst) (y:=y.dst) a2' dx (.bool b)
    rw [show (St.put s x.dst dx).e = (St.put ⟨s.e,s.h,s.nx⟩ x.dst dx).e from rfl,this]
    exact h7
theorem comm {x y : Oper} (hok : okPair E ops x y = true) (hB : BOK E B) (hL : Live B s) {K : St → Prop} (h : AT E ops x (AT E ops y K) s) : AT E ops y (AT E ops x K) s:=by
  simp only [okPair,Bool.and_eq_true,Bool.or_eq_true] at hok
  rcases hok with ⟨h1,h2 | h2⟩
  · exact comm1 h1 h2 hB hL h
  · exact comm2 h1 h2 hB hL h
theorem AT_live {o : Oper} (hB : BOK E B) (hL : Live B s) (hd : dstOk B.N o = true) {K : St → Prop} (h : AT E ops o K s) : ∃ s',Live B s' ∧ K s':=by
  obtain ⟨φ,S,a,w,hr⟩:=hL
  unfold AT at h
  split at h
  · exact (AX_runs hB hr (dstOk.spec hd) h).live
  · rename_i g want hg
    split at h
    · rename_i t ht
      unfold gd at h
      split at h
      · rename_i b hb
        by_cases e : b = want
        · exact (AX_runs hB hr (dstOk.spec hd) (h.1 e)).live
        · exact ⟨_,⟨_,_,_,_,hr.put (d:=.tup []) (v:=undef) (by simp only [RepV,RepVs,undef];exact ⟨[],rfl,rfl⟩) (dstOk.spec hd)⟩,h.2 e⟩
      · exact ⟨_,⟨_,_,_,_,hr.put (d:=.tup []) (v:=undef) (by simp only [RepV,RepVs,undef];exact ⟨[],rfl,rfl⟩) (dstOk.spec hd)⟩,h⟩
      · exact h.elim
    · exact h.elim
theorem AT_mono {o : Oper} (hB : BOK E B) (hL : Live B s) (hd : dstOk B.N o = true) {K K' : St → Prop} (hK : ∀ s',Live B s' → K s' → K' s') (h : AT E ops o K s) : AT E ops o K' s:=by
  have self : AgreeT E ops o s s.e:=⟨fun z _ => by cases z <;> rfl,fun _ _ _ _ _ => rfl⟩
  rcases AT_det h with ⟨d,h1,nx,h2,h3,h4⟩ | ⟨p,h1,h2,h3⟩
  · refine h4 s.e K' self (hK _ ?_ h3)
    obtain ⟨s',hL',e⟩:=AT_live hB hL hd (h4 s.e (fun s' => s' = (⟨s.e,h1,nx⟩ : St).put o.dst d) self rfl)
    exact e ▸ hL'
  · refine h3 s.e K' self fun b hb => hK _ ?_ (h2 b hb)
    obtain ⟨φ,S,a,w,hr⟩:=hL
    exact ⟨_,_,_,_,hr.put (d:=.bool b) (v:=.bool b) (by simp [RepV,Rep0]) (dstOk.spec hd)⟩
end
end Go.Proofs.YtakaojkfipnfcaaGreatDoor.Lv
