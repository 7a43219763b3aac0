/- The abstract machine: what a callee sees of the caller's blocks, and the other way round. -/
import Derived.Test.YtakaojkfipnfcaaGreatDoorG03
set_option linter.unusedVariables false
set_option linter.unusedSimpArgs false
set_option maxRecDepth 100000
set_option maxHeartbeats 4000000
namespace Go.Proofs.YtakaojkfipnfcaaGreatDoor.Lv
open Go Go.RowKit
def upd (e : Nat → D) (t : Nat) (d : D) : Nat → D:=fun t' => if t' = t then d else e t'
def St.put (s : St) (dst : Option Nat) (d : D) : St:=match dst with
  | some t => ⟨upd s.e t d,s.h,s.nx⟩
  | none => s
theorem St.put_h (s : St) (dst : Option Nat) (d : D) : (s.put dst d).h = s.h:=by cases dst <;> rfl
theorem St.put_nx (s : St) (dst : Option Nat) (d : D) : (s.put dst d).nx = s.nx:=by cases dst <;> rfl
mutual
def imp (ρ : Nat → Option Nat) (h : Hp) : D → D
  | .sl b ver off n => match ρ b with
    | some i => .sl i ver off n
    | none => match lookB h b with
      | some (.row _ ver' ag sz _ f ty) => if ver = ver' then .ro ag sz n fun i => f (off + i) else .unk
      | _ => .unk
  | .ad b off => match ρ b with
    | some i => .ad i off
    | none => .unk
  | .el b ver j fo => match ρ b with
    | some i => .el i ver j fo
    | none => .unk
  | .vs b off esz n => match ρ b with
    | some i => .vs i off esz n
    | none => .unk
  | .agg cs => .agg (imps ρ h cs)
  | .fn f cs => .fn f (imps ρ h cs)
  | .tup cs => .tup (imps ρ h cs)
  | d => d
def imps (ρ : Nat → Option Nat) (h : Hp) : List D → List D
  | [] => []
  | d :: ds => imp ρ h d :: imps ρ h ds
end
def impB (ρ : Nat → Option Nat) (h : Hp) : Blk → Blk
  | .var ag sz d ty => .var ag sz (imp ρ h d) ty
  | x => x
mutual
def refs (ρ : Nat → Option Nat) : D → List Nat
  | .sl b _ _ _ => match ρ b with
    | some _ => []
    | none => [b]
  | .agg cs | .fn _ cs | .tup cs => refss ρ cs
  | _ => []
def refss (ρ : Nat → Option Nat) : List D → List Nat
  | [] => []
  | d :: ds => refs ρ d ++ refss ρ ds
end
def refB (ρ : Nat → Option Nat) : Option Blk → List Nat
  | some (.var _ _ d _) => refs ρ d
  | _ => []
mutual
def flat : D → Bool
  | .sl .. | .ad .. | .el .. | .vs .. | .ro .. | .ra .. => false
  | .agg cs | .fn _ cs | .tup cs => flats cs
  | _ => true
def flats : List D → Bool
  | [] => true
  | d :: ds => flat d && flats ds
end
def frz (bs : List Nat) : Hp → Hp
  | [] => []
  | (b, .row fz ver ag sz n f ty) :: r => (b, .row (fz || bs.contains b) ver ag sz n f ty) :: frz bs r
  | (b, .var ag sz d ty) :: r => (b, .var ag sz d ty) :: frz bs r
def St.frz (s : St) (bs : List Nat) : St:=⟨s.e,Lv.frz bs s.h,s.nx⟩
mutual
def exD (r : Nat → Nat) : D → D
  | .sl b ver off n => .sl (r b) ver off n
  | .ad b off => .ad (r b) off
  | .el b ver j fo => .el (r b) ver j fo
  | .vs b off esz n => .vs (r b) off esz n
  | .agg cs => .agg (exDs r cs)
  | .fn f cs => .fn f (exDs r cs)
  | .tup cs => .tup (exDs r cs)
  | d => d
def exDs (r : Nat → Nat) : List D → List D
  | [] => []
  | d :: ds => exD r d :: exDs r ds
end
def exB (r : Nat → Nat) : Blk → Blk
  | .var ag sz d ty => .var ag sz (exD r d) ty
  | x => x
def pos : List Nat → Nat → Option Nat
  | [],_ => none
  | x :: r,b => if b = x then some 0 else (pos r b).map (· + 1)
def impH (ρ : Nat → Option Nat) (h : Hp) : List Nat → Nat → Hp
  | [],_ => []
  | b :: r,i => match lookB h b with
    | some x => (i,impB ρ h x) :: impH ρ h r (i + 1)
    | none => impH ρ h r (i + 1)
def mrg (r : Nat → Nat) (k : Nat) : Hp → Hp → Hp
  | [],h => h
  | (i,y) :: rest,h => if i < k then up (mrg r k rest h) (r i) (exB r y) else (r i,exB r y) :: mrg r k rest h
def ex (bs : List Nat) (nx : Nat) (i : Nat) : Nat:=if i < bs.length then bs.getD i 0 else nx + i
def givOk (h : Hp) : List Nat → Bool
  | [] => true
  | b :: r => (match lookB h b with
    | some (.row fz _ _ _ _ _ _) => !fz
    | some (.var _ _ _ _) => true
    | none => false) && !r.contains b && givOk h r
section
variable {B : Base} {s : St} {φ : Ph} {S : Nat → Prop} {a : Act} {w : World}
theorem Rel.put (hr : Rel B s φ S a w) {d : D} {v : Value} (hv : RepV s.h φ S w d v) {dst : Option Nat} (hd : ∀ t,dst = some t → t < B.N) : Rel B (s.put dst d) φ S (a.put dst v) w:=by
  cases dst with
  | none => exact hr
  | some t =>
    have ht:=hd t rfl
    refine ⟨fun i => ?_,by simpa [Act.put] using hr.size,hr.hp,hr.nx,hr.slt,hr.plt,hr.old,hr.s0,hr.s1,hr.below,hr.ext,hr.nx0,hr.def0⟩
    simp only [St.put,upd,Act.put]
    by_cases h : i = t
    · subst h
      simp only [if_true]
      rw [Array.getD_eq_getD_getElem?,Array.getElem?_setIfInBounds_self_of_lt (by rw [hr.size];exact ht)]
      exact hv
    · rw [if_neg h,Array.getD_eq_getD_getElem?,Array.getElem?_setIfInBounds_ne (Ne.symm h),← Array.getD_eq_getD_getElem?]
      exact hr.env i
theorem Rel.later (hr : Rel B s φ S a w) {S' : Nat → Prop} {w' : World} (hb : Below w.heap.size w w') (h1 : ∀ b,S b → S' b) (h2 : ∀ b,S' b → b < w'.heap.size) (h3 : ∀ b,S' b → b < w.heap.size → S b) : Rel B s φ S' a w':=by
  have hk : Kept S w w':=fun b hS => hb.block b (hr.slt b hS)
  have hx:=HpExt.refl s.h φ
  refine ⟨fun i => RepV.mono hx hk h1 _ _ (hr.env i),hr.size,⟨fun b x hl => ?_,hr.hp.inj⟩,hr.nx,h2,fun b x c t hl hp => Nat.lt_of_lt_of_le (hr.plt b x c t hl hp) hb.size,hr.old,fun b h => h1 b (hr.s0 b h),fun b h hlt => hr.s1 b (h3 b h (Nat.lt_of_lt_of_le hlt hr.below.size)) hlt,⟨hb.os.trans hr.below.os,hb.tape.trans hr.below.tape,hb.output.trans hr.below.output,Nat.le_trans hr.below.size hb.size,fun k hk hG => (hb.block k (Nat.lt_of_lt_of_le hk hr.below.size)).trans (hr.below.block k hk hG)⟩,hr.ext,hr.nx0,hr.def0.move fun D hD _ hS ho => ⟨hb.block D hD,fun h => hS (h3 D h hD),ho⟩⟩
  have hc : ∀ c t,φ b = some (c,t) → c < w.heap.size:=fun c t hp => hr.plt b x c t hl hp
  have h:=hr.hp.blk b x hl
  cases x with
  | var ag sz d =>
    obtain ⟨c,t,g1,g2,x,vs,e,lo,hi,g3,g4,g5,g6,g7⟩:=h
    exact ⟨c,t,g1,fun h => g2 (h3 c h (hc c t g1)),x,vs,e,lo,hi,(hb.block c (hc c t g1)).trans g3,g4,g5,g6,RepV.mono hx hk h1 _ _ g7.1,g7.2⟩
  | row fz ver ag sz n f tyr =>
    refine ⟨h.1,fun c tot e => ?_⟩
    obtain ⟨g1,g2,g3,g4,vs,ty,lo,hi,g5,g6,g7,g8,g9⟩:=h.2 c tot e
    refine ⟨fun hf h => g1 hf (h3 c h (hc c tot e)),fun hf => h1 c (g2 hf),g3,g4,vs,ty,lo,hi,(hb.block c (hc c tot e)).trans g5,g6,g7,fun i hi => ?_,g9⟩
    obtain ⟨x,k1,k2⟩:=g8 i hi
    exact ⟨x,k1,Rep0.mono hk h1 _ _ k2⟩
theorem Rel.drawn (hr : Rel B s φ S a w) (n : Nat) : Rel B s φ S a { w with drawn:=n }:=
  hr.later (w':={ w with drawn:=n }) ⟨rfl,rfl,rfl,Nat.le_refl _,fun _ _ => rfl⟩ (fun _ h => h) hr.slt (fun _ h _ => h)
def Fz (h : Hp) (φ : Ph) (S : Nat → Prop) (bs : List Nat) (c : Nat) : Prop:=S c ∨ ∃ b,b ∈ bs ∧ ∃ fz ver ag sz n f ty t,lookB h b = some (.row fz ver ag sz n f ty) ∧ φ b = some (c,t)
theorem lookB_frz (bs : List Nat) : ∀ (h : Hp) (b : Nat),lookB (frz bs h) b = match lookB h b with
    | some (.row fz ver ag sz n f ty) => some (.row (fz || bs.contains b) ver ag sz n f ty)
    | x => x
  | [],b => rfl
  | (c, .var ag sz d ty) :: r,b => by
    simp only [frz,lookB]
    by_cases h : b = c
    · simp [h]
    · simp only [if_neg h];exact lookB_frz bs r b
  | (c, .row fz ver ag sz n f ty) :: r,b => by
    simp only [frz,lookB]
    by_cases h : b = c
    · simp [h]
    · simp only [if_neg h];exact lookB_frz bs r b
theorem frz_ext (bs : List Nat) (h : Hp) (φ : Ph) : HpExt h φ (frz bs h) φ:=fun b => ⟨fun ag sz d ty h => ⟨⟨d,by rw [lookB_frz,h]⟩,rfl⟩,fun fz ver ag sz m f ty h => ⟨_,ver,m,f,ty,by rw [lookB_frz,h],Nat.le_refl _,fun _ => ⟨Nat.le_refl _,rfl⟩⟩⟩
theorem Rel.frz (hr : Rel B s φ S a w) (bs : List Nat) : Rel B (s.frz bs) φ (Fz s.h φ S bs) a w:=by
  have hx : HpExt s.h φ (Lv.frz bs s.h) φ:=frz_ext bs s.h φ
  have hk : Kept S w w:=fun _ _ => rfl
  have hs : ∀ b,S b → Fz s.h φ S bs b:=fun b h => .inl h
  have hsome : ∀ b x,lookB (Lv.frz bs s.h) b = some x → ∃ y,lookB s.h b = some y:=fun b x h => by
    rw [lookB_frz] at h
    cases hl : lookB s.h b with
    | none => rw [hl] at h;cases h
    | some y => exact ⟨y,rfl⟩
  refine ⟨fun i => RepV.mono hx hk hs _ _ (hr.env i),hr.size,⟨fun b x hl => ?_,fun b b' x x' c t t' l l' p p' => ?_⟩,fun b x hl => ?_,fun c h => ?_,fun b x c t hl hp => ?_,fun b x c t hl hp => ?_,fun b h => hs b (hr.s0 b h),fun c h hlt => ?_,hr.below,hr.ext.trans hx (fun b hb => ?_),hr.nx0,hr.def0.move fun D hD _ hS ho => ⟨rfl,fun h => ?_,fun b x c t l p => ?_⟩⟩
  · cases hy : lookB s.h b with
    | none =>
      simp only [St.frz] at hl
      rw [lookB_frz,hy] at hl
      cases hl
    | some y =>
      have h:=hr.hp.blk b y hy
      simp only [St.frz] at hl
      rw [lookB_frz,hy] at hl
      cases y with
      | var ag sz d =>
        simp only [Option.some.injEq] at hl
        subst hl
        obtain ⟨c,t,g1,g2,x,vs,e,lo,hi,g3,g4,g5,g6,g7⟩:=h
        refine ⟨c,t,g1, ?_,x,vs,e,lo,hi,g3,g4,g5,g6,RepV.mono hx hk hs _ _ g7.1,g7.2⟩
        rintro (h | ⟨b',hb',fz,ver,ag',sz',n,f,ty',t',l',p'⟩)
        · exact g2 h
        · obtain rfl:=hr.hp.inj b b' _ _ c t t' hy l' g1 p'
          rw [hy] at l'
          cases l'
      | row fz ver ag sz n f tyr =>
        simp only [Option.some.injEq] at hl
        subst hl
        refine ⟨h.1,fun c tot e => ?_⟩
        obtain ⟨g1,g2,g3,g4,vs,ty,lo,hi,g5,g6,g7,g8,g9⟩:=h.2 c tot e
        refine ⟨fun hf => ?_,fun hf => ?_,g3,g4,vs,ty,lo,hi,g5,g6,g7,fun i hi => ?_,g9⟩
        · simp only [Bool.or_eq_false_iff] at hf
          rintro (h | ⟨b',hb',fz',ver',ag',sz',n',f',ty',t',l',p'⟩)
          · exact g1 hf.1 h
          · obtain rfl:=hr.hp.inj b b' _ _ c tot t' hy l' e p'
            have:=hf.2
            simp [hb'] at this
        · simp only [Bool.or_eq_true] at hf
          rcases hf with hf | hf
          · exact .inl (g2 hf)
          · exact .inr ⟨b,by simpa using hf,fz,ver,ag,sz,n,f,_,tot,hy,e⟩
        · obtain ⟨x,k1,k2⟩:=g8 i hi
          exact ⟨x,k1,Rep0.mono hk hs _ _ k2⟩
  · obtain ⟨y,hy⟩:=hsome b x l
    obtain ⟨y',hy'⟩:=hsome b' x' l'
    exact hr.hp.inj b b' y y' c t t' hy hy' p p'
  · obtain ⟨y,hy⟩:=hsome b x hl
    exact hr.nx b y hy
  · rcases h with h | ⟨b',hb',fz',ver',ag',sz',n',f',ty',t',l',p'⟩
    · exact hr.slt c h
    · exact hr.plt b' _ c t' l' p'
  · obtain ⟨y,hy⟩:=hsome b x hl
    exact hr.plt b y c t hy hp
  · obtain ⟨y,hy⟩:=hsome b x hl
    exact hr.old b y c t hy hp
  · rcases h with h | ⟨b',hb',fz',ver',ag',sz',n',f',ty',t',l',p'⟩
    · exact hr.s1 c h hlt
    · exact .inr ((hr.old b' _ c t' l' p').resolve_left (by omega))
  · obtain ⟨y,hy⟩:=Option.isSome_iff_exists.1 hb
    obtain ⟨x,hx⟩:=hsome b y hy
    exact .inl (by rw [hx];rfl)
  · rcases h with h | ⟨b',hb',fz',ver',ag',sz',n',f',ty',t',l',p'⟩
    · exact hS h
    · exact ho b' _ D t' l' p' rfl
  · obtain ⟨y,hy⟩:=hsome b x l
    exact ho b y c t hy p
end
section
variable {h h2 : Hp} {φ φ2 : Ph} {S : Nat → Prop} {w : World} {ρ : Nat → Option Nat} {fs : List Nat}
mutual
theorem imp_rep (hp : HpAt h φ S w) (hρ : ∀ b i,ρ b = some i → ∀ x,lookB h b = some x → lookB h2 i = some (impB ρ h x) ∧ φ2 i = φ b) :
    ∀ (d : D) (v : Value),RepV h φ S w d v → (∀ b,b ∈ refs ρ d → b ∈ fs) → RepV h2 φ2 (Fz h φ S fs) w (imp ρ h d) v
  | .int ..,_,h,_ | .bool ..,_,h,_ | .str ..,_,h,_ | .nilp,_,h,_ | .nils,_,h,_ | .nilm,_,h,_ | .nilf,_,h,_ | .gl ..,_,h,_ | .unk,_,h,_ | .ro ..,_,h,_ | .ra ..,_,h,_ => by
    simp only [RepV,imp] at h ⊢
    exact Rep0.mono (fun _ _ => rfl) (fun b h => .inl h) _ _ h
  | .ad b off,v,hv,_ => by
    simp only [imp]
    cases hb : ρ b with
    | none => simp [RepV,Rep0]
    | some i =>
      simp only [RepV] at hv ⊢
      obtain ⟨ag,sz,d,ty,c,t,hl,hph,e⟩:=hv
      obtain ⟨h1,h2⟩:=hρ b i hb _ hl
      exact ⟨ag,sz,imp ρ h d,ty,c,t,h1,h2.trans hph,e⟩
  | .el b ver j fo,v,hv,_ => by
    simp only [imp]
    cases hb : ρ b with
    | none => simp [RepV,Rep0]
    | some i =>
      simp only [RepV] at hv ⊢
      obtain ⟨fz,ver',ag,sz,m,f,ty,hl,hv,hh⟩:=hv
      obtain ⟨h1,h2⟩:=hρ b i hb _ hl
      refine ⟨fz,ver',ag,sz,m,f,ty,h1,hv,fun e => ?_⟩
      rw [h2]
      exact hh e
  | .vs b off esz n,v,hv,_ => by
    simp only [imp]
    cases hb : ρ b with
    | none => simp [RepV,Rep0]
    | some i =>
      simp only [RepV] at hv ⊢
      obtain ⟨ag,sz,d,ty,c,t,a,cap,hl,hph,e⟩:=hv
      obtain ⟨h1,h2⟩:=hρ b i hb _ hl
      exact ⟨ag,sz,imp ρ h d,ty,c,t,a,cap,h1,h2.trans hph,e⟩
  | .agg cs,v,hv,hb => by
    simp only [RepV,imp,refs] at hv hb ⊢
    obtain ⟨vs,e,hv⟩:=hv
    exact ⟨vs,e,imps_rep hp hρ cs vs hv hb⟩
  | .tup cs,v,hv,hb => by
    simp only [RepV,imp,refs] at hv hb ⊢
    obtain ⟨vs,e,hv⟩:=hv
    exact ⟨vs,e,imps_rep hp hρ cs vs hv hb⟩
  | .fn f cs,v,hv,hb => by
    simp only [RepV,imp,refs] at hv hb ⊢
    obtain ⟨vs,e,hv⟩:=hv
    exact ⟨vs,e,imps_rep hp hρ cs vs hv hb⟩
  | .sl b ver off n,v,hv,hb => by
    simp only [RepV] at hv
    obtain ⟨fz,ver',ag,sz,m,f,ty,hl,hver,hv⟩:=hv
    simp only [imp]
    cases hρb : ρ b with
    | some i =>
      simp only [RepV]
      obtain ⟨h1,h2⟩:=hρ b i hρb _ hl
      refine ⟨fz,ver',ag,sz,m,f,ty,h1,hver,fun e => ?_⟩
      rw [h2]
      exact hv e
    | none =>
      simp only [hl]
      by_cases e : ver = ver'
      · rw [if_pos e]
        obtain ⟨h1,a,cap,rfl,h2,h3,h4⟩:=hv e
        simp only [RepV,Rep0]
        have hblk:=hp.blk b _ hl
        refine ⟨a,cap,rfl,h2, ?_,fun hn => ?_⟩
        · cases hp' : φ b with
          | none => rw [(h3 hp').2];omega
          | some q =>
            obtain ⟨c,tot⟩:=q
            have:=(h4 c tot hp').1
            have:=(hblk.2 c tot hp').2.2.1
            omega
        · cases hp' : φ b with
          | none => have:=hblk.1 hp';omega
          | some q =>
            obtain ⟨c,tot⟩:=q
            obtain ⟨k1,k2,k3⟩:=h4 c tot hp'
            obtain ⟨_,_,htot,hm,vs,ty,lo,hi,hheap,hlen,⟨_,h1c⟩,hels,_⟩:=hblk.2 c tot hp'
            refine ⟨c,off * sz,k3 (by omega), .inr ⟨b,hb b (by simp [refs,hρb]),fz,ver',ag,sz,m,f,_,tot,hl,hp'⟩,fun i hi => ?_⟩
            obtain ⟨x,g1,g2⟩:=hels (off + i) (by omega)
            refine ⟨x,(vs.drop ((off + i) * sz)).take sz, ?_, ?_,g1,Rep0.mono (fun _ _ => rfl) (fun b h => .inl h) _ _ g2⟩
            · have : (off + i) * sz + sz ≤ tot * sz:=by
                have:=Nat.mul_le_mul_right sz (show off + i + 1 ≤ tot by omega)
                rw [Nat.add_mul] at this
                omega
              rw [List.length_take,List.length_drop,hlen]
              omega
            · have:=(At.of_heap hheap h1c).part ((off + i) * sz) sz
              rw [Nat.zero_add,Nat.add_mul] at this
              simpa [Nat.add_mul] using this
      · rw [if_neg e]
        simp [RepV,Rep0]
theorem imps_rep (hp : HpAt h φ S w) (hρ : ∀ b i,ρ b = some i → ∀ x,lookB h b = some x → lookB h2 i = some (impB ρ h x) ∧ φ2 i = φ b) :
    ∀ (ds : List D) (vs : List Value),RepVs h φ S w ds vs → (∀ b,b ∈ refss ρ ds → b ∈ fs) → RepVs h2 φ2 (Fz h φ S fs) w (imps ρ h ds) vs
  | [],vs,h,_ => by simpa [RepVs,imps] using h
  | d :: ds,vs,h,hb => by
    simp only [RepVs,imps,refss,List.mem_append] at h hb ⊢
    obtain ⟨v,vs',e,h1,h2⟩:=h
    exact ⟨v,vs',e,imp_rep hp hρ d v h1 (fun b h => hb b (.inl h)),imps_rep hp hρ ds vs' h2 (fun b h => hb b (.inr h))⟩
end
theorem imp_hp (hp : HpAt h φ S w) (hρ : ∀ b i,ρ b = some i → ∀ x,lookB h b = some x → lookB h2 i = some (impB ρ h x) ∧ φ2 i = φ b)
    (hback : ∀ i y,lookB h2 i = some y → ∃ b x,ρ b = some i ∧ lookB h b = some x ∧ y = impB ρ h x) (hfs : ∀ b,b ∈ fs → ρ b = none)
    (hrf : ∀ b i ag sz d ty,ρ b = some i → lookB h b = some (.var ag sz d ty) → ∀ b',b' ∈ refs ρ d → b' ∈ fs) : HpAt h2 φ2 (Fz h φ S fs) w:=by
  have nofs : ∀ b i x c t,ρ b = some i → lookB h b = some x → φ b = some (c,t) → ¬ S c → ¬ Fz h φ S fs c:=by
    rintro b i x c t h1 h2 h3 h4 (h | ⟨b',hb',fz',ver',ag',sz',n',f',ty',t',l',p'⟩)
    · exact h4 h
    · obtain rfl:=hp.inj b b' _ _ c t t' h2 l' h3 p'
      rw [hfs b hb'] at h1
      cases h1
  refine ⟨fun i y hl => ?_,fun i i' y y' c t t' l l' p p' => ?_⟩
  · obtain ⟨b,x,h1,h2,rfl⟩:=hback i y hl
    obtain ⟨_,h3⟩:=hρ b i h1 x h2
    have hx:=hp.blk b x h2
    cases x with
    | var ag sz d =>
      obtain ⟨c,t,g1,g2,x,vs,e,lo,hi,g3,g4,g5,g6,g7⟩:=hx
      exact ⟨c,t,h3.trans g1,nofs b i _ c t h1 h2 g1 g2,x,vs,e,lo,hi,g3,g4,g5,g6,imp_rep hp hρ _ _ g7.1 (hrf b i ag sz d _ h1 h2),g7.2⟩
    | row fz ver ag sz n f tyr =>
      refine ⟨fun e => hx.1 (h3.symm.trans e),fun c tot e => ?_⟩
      have e':=h3.symm.trans e
      obtain ⟨g1,g2,g3,g4,vs,ty,lo,hi,g5,g6,g7,g8,g9⟩:=hx.2 c tot e'
      refine ⟨fun hf => nofs b i _ c tot h1 h2 e' (g1 hf),fun hf => .inl (g2 hf),g3,g4,vs,ty,lo,hi,g5,g6,g7,fun i hi => ?_,g9⟩
      obtain ⟨x,k1,k2⟩:=g8 i hi
      exact ⟨x,k1,Rep0.mono (fun _ _ => rfl) (fun b h => .inl h) _ _ k2⟩
  · obtain ⟨b,x,h1,h2,rfl⟩:=hback i y l
    obtain ⟨b',x',h1',h2',rfl⟩:=hback i' y' l'
    have e1:=(hρ b i h1 x h2).2.symm.trans p
    have e2:=(hρ b' i' h1' x' h2').2.symm.trans p'
    obtain rfl:=hp.inj b b' x x' c t t' h2 h2' e1 e2
    rw [h1] at h1'
    exact Option.some.inj h1'
end
section
variable {h h2 : Hp} {φ φ2 : Ph} {S : Nat → Prop} {w : World} {r : Nat → Nat}
mutual
theorem ex_rep (hr : ∀ i y,lookB h i = some y → lookB h2 (r i) = some (exB r y) ∧ φ2 (r i) = φ i) : ∀ (d : D) (v : Value),RepV h φ S w d v → RepV h2 φ2 S w (exD r d) v
  | .int ..,_,h | .bool ..,_,h | .str ..,_,h | .nilp,_,h | .nils,_,h | .nilm,_,h | .nilf,_,h | .gl ..,_,h | .unk,_,h | .ro ..,_,h | .ra ..,_,h => by
    simpa only [RepV,exD] using h
  | .ad b off,v,hv => by
    simp only [exD,RepV] at hv ⊢
    obtain ⟨ag,sz,d,ty,c,t,hl,hph,e⟩:=hv
    obtain ⟨h1,h2⟩:=hr b _ hl
    exact ⟨ag,sz,exD r d,ty,c,t,h1,h2.trans hph,e⟩
  | .el b ver j fo,v,hv => by
    simp only [exD,RepV] at hv ⊢
    obtain ⟨fz,ver',ag,sz,m,f,ty,hl,hv,hh⟩:=hv
    obtain ⟨h1,h2⟩:=hr b _ hl
    refine ⟨fz,ver',ag,sz,m,f,ty,h1,hv,fun e => ?_⟩
    rw [h2]
    exact hh e
  | .sl b ver off n,v,hv => by
    simp only [exD,RepV] at hv ⊢
    obtain ⟨fz,ver',ag,sz,m,f,ty,hl,hver,hv⟩:=hv
    obtain ⟨h1,h2⟩:=hr b _ hl
    refine ⟨fz,ver',ag,sz,m,f,ty,h1,hver,fun e => ?_⟩
    rw [h2]
    exact hv e
  | .vs b off esz n,v,hv => by
    simp only [exD,RepV] at hv ⊢
    obtain ⟨ag,sz,d,ty,c,t,a,cap,hl,hph,e⟩:=hv
    obtain ⟨h1,h2⟩:=hr b _ hl
    exact ⟨ag,sz,exD r d,ty,c,t,a,cap,h1,h2.trans hph,e⟩
  | .agg cs,v,hv => by
    simp only [RepV,exD] at hv ⊢
    obtain ⟨vs,e,hv⟩:=hv
    exact ⟨vs,e,exs_rep hr cs vs hv⟩
  | .tup cs,v,hv => by
    simp only [RepV,exD] at hv ⊢
    obtain ⟨vs,e,hv⟩:=hv
    exact ⟨vs,e,exs_rep hr cs vs hv⟩
  | .fn f cs,v,hv => by
    simp only [RepV,exD] at hv ⊢
    obtain ⟨vs,e,hv⟩:=hv
    exact ⟨vs,e,exs_rep hr cs vs hv⟩
theorem exs_rep (hr : ∀ i y,lookB h i = some y → lookB h2 (r i) = some (exB r y) ∧ φ2 (r i) = φ i) : ∀ (ds : List D) (vs : List Value),RepVs h φ S w ds vs → RepVs h2 φ2 S w (exDs r ds) vs
  | [],vs,h => by simpa only [RepVs,exDs] using h
  | d :: ds,vs,h => by
    simp only [RepVs,exDs] at h ⊢
    obtain ⟨v,vs',e,h1,h2⟩:=h
    exact ⟨v,vs',e,ex_rep hr d v h1,exs_rep hr ds vs' h2⟩
end
theorem ex_blk (hr : ∀ i y,lookB h i = some y → lookB h2 (r i) = some (exB r y) ∧ φ2 (r i) = φ i) {i : Nat} {y : Blk} (hl : lookB h i = some y) (hb : BlkAt h φ S w i y) : BlkAt h2 φ2 S w (r i) (exB r y):=by
  obtain ⟨_,h3⟩:=hr i y hl
  cases y with
  | var ag sz d =>
    obtain ⟨c,t,g1,g2,x,vs,e,lo,hi,g3,g4,g5,g6,g7⟩:=hb
    exact ⟨c,t,h3.trans g1,g2,x,vs,e,lo,hi,g3,g4,g5,g6,ex_rep hr _ _ g7.1,g7.2⟩
  | row fz ver ag sz n f tyr =>
    exact ⟨fun e => hb.1 (h3.symm.trans e),fun c tot e => hb.2 c tot (h3.symm.trans e)⟩
theorem mrg_in (hinj : ∀ i j,r i = r j → i = j) {k : Nat} : ∀ (h' : Hp) (h : Hp),(∀ i,i < k → (lookB h (r i)).isSome = true) → ∀ i y,lookB h' i = some y → lookB (mrg r k h' h) (r i) = some (exB r y)
  | [],h,hk,i,y,hl => by cases hl
  | (j,z) :: rest,h,hk,i,y,hl => by
    have hsome : ∀ (h' : Hp) i,i < k → (lookB (mrg r k h' h) (r i)).isSome = true:=by
      intro h'
      induction h' with
      | nil => exact hk
      | cons p rest ih =>
        intro i hi
        obtain ⟨j,z⟩:=p
        simp only [mrg]
        split
        · rw [lookB_up]
          split
          · rfl
          · exact ih i hi
        · simp only [lookB]
          split
          · rfl
          · exact ih i hi
    simp only [lookB] at hl
    simp only [mrg]
    by_cases e : i = j
    · subst e
      rw [if_pos rfl] at hl
      cases hl
      split
      · rename_i hlt
        rw [lookB_up,if_pos ⟨rfl,hsome rest i hlt⟩]
      · simp [lookB]
    · rw [if_neg e] at hl
      have hne : r i ≠ r j:=fun h => e (hinj _ _ h)
      have ih:=mrg_in hinj rest h hk i y hl
      split
      · rw [lookB_up,if_neg (fun h => hne h.1)]
        exact ih
      · simp only [lookB,if_neg hne]
        exact ih
theorem mrg_out {k : Nat} {b : Nat} : ∀ (h' : Hp) (h : Hp),(∀ i y,lookB h' i = some y → b ≠ r i) → lookB (mrg r k h' h) b = lookB h b
  | [],h,_ => rfl
  | (j,z) :: rest,h,hb => by
    have h0 : b ≠ r j:=hb j z (by simp [lookB])
    have ih : lookB (mrg r k rest h) b = lookB h b:=by
      by_cases hall : ∀ i y,lookB rest i = some y → b ≠ r i
      · exact mrg_out rest h hall
      · exfalso
        refine hall fun i y hl e => ?_
        by_cases e2 : i = j
        · subst e2;exact h0 e
        · exact hb i y (by simp [lookB,e2,hl]) e
    simp only [mrg]
    split
    · rw [lookB_up,if_neg (fun h => h0 h.1)]
      exact ih
    · simp only [lookB,if_neg h0]
      exact ih
end
end Go.Proofs.YtakaojkfipnfcaaGreatDoor.Lv
