/- The abstract machine: a function's contract out of its code. The abstract machine: rules for reckoning. -/
import Derived.Test.YtakaojkfipnfcaaGreatDoorG08
import Derived.RangeFuncLeaves
set_option linter.unusedVariables false
set_option linter.unusedSimpArgs false
set_option maxRecDepth 100000
set_option maxHeartbeats 4000000
namespace Go.Proofs.YtakaojkfipnfcaaGreatDoor.Lv
open Go Go.RowKit
def resD (E : Ctx) (s : St) : List ResultVar → Option (List D)
  | [] => some []
  | .tmp t :: r => (resD E s r).map fun ds => s.e t :: ds
  | .cell t ty :: r => match (E.tt ty).k with
    | .bad => none
    | _ => (ldd s.h (E.tt ty).ag (E.tt ty).sz (s.e t)).bind fun d => (resD E s r).map fun ds => d :: ds
def one' : List D → D
  | [d] => d
  | ds => .tup ds
def kp (h : Hp) (b : Nat) : Option Nat:=if (lookB h b).isSome then some b else none
def Le (d d' : D) : Prop:=∀ S w v,Rep0 S w d v → Rep0 S w d' v
def LeV (d d' : D) : Prop:=∀ H φ S w v,RepV H φ S w d v → RepV H φ S w d' v
def LesV (ds ds' : List D) : Prop:=∀ H φ S w vs,RepVs H φ S w ds vs → RepVs H φ S w ds' vs
def tle (ty ty' : Nat) : Prop:=ty' = 0 ∨ ty = ty'
theorem tle_s (t : Nat) : tle t t = True:=by simp [tle]
theorem tle.of {ty ty' e : Nat} (h : tle ty ty') (g : ty = 0 ∨ e = ty) : ty' = 0 ∨ e = ty':=by unfold tle at h;omega
def BLe : Option Blk → Blk → Prop
  | some (.var ag sz d ty), .var ag' sz' d' ty' => ag = ag' ∧ sz = sz' ∧ ty = ty' ∧ LeV d d'
  | some (.row fz ver ag sz n f ty), .row fz' ver' ag' sz' n' f' ty' => fz = fz' ∧ ver = ver' ∧ ag = ag' ∧ sz = sz' ∧ n = n' ∧ tle ty ty' ∧ ∀ i,i < n → Le (f i) (f' i)
  | _,_ => False
def HLe (ρ : Nat → Option Nat) (H : Hp) : Hp → Prop
  | [] => True
  | (i,y) :: r => BLe ((lookB H i).map (impB ρ H)) y ∧ HLe ρ H r
def retQ (E : Ctx) (rl : List ResultVar) (d : D) (h' : Hp) : Exit → St → Prop
  | .normal,s | .ret,s => ork ((resD E s rl).map fun ds => imp (kp h') s.h (one' ds)) (fun d' => LeV d' d) False ∧ HLe (kp h') s.h h'
  | _,_ => False
def St.init (args : List D) (h : Hp) : St:=⟨fun t => args.getD t .unk,h,mx h⟩
theorem Le.refl (d : D) : Le d d:=fun _ _ _ h => h
theorem Le.of_eq {d d' : D} (e : d = d') : Le d d':=e ▸ Le.refl d
theorem LeV.refl (d : D) : LeV d d:=fun _ _ _ _ _ h => h
theorem LeV.of_eq {d d' : D} (e : d = d') : LeV d d':=e ▸ LeV.refl d
theorem LeV.trans {a b c : D} (h : LeV a b) (h' : LeV b c) : LeV a c:=fun H φ S w v x => h' H φ S w v (h H φ S w v x)
theorem LeV.unk (d : D) : LeV d .unk:=fun _ _ _ _ _ _ => by simp [RepV,Rep0]
theorem Le.ro {ag : Bool} {sz n : Nat} {f g : Nat → D} (h : ∀ i,i < n → Le (f i) (g i)) : Le (.ro ag sz n f) (.ro ag sz n g):=fun S w v hv => by
  simp only [Rep0] at hv ⊢
  obtain ⟨a,cap,e,h1,h2,h3⟩:=hv
  refine ⟨a,cap,e,h1,h2,fun hp => ?_⟩
  obtain ⟨b,o,h4,h5,h6⟩:=h3 hp
  refine ⟨b,o,h4,h5,fun i hi => ?_⟩
  obtain ⟨x,vs,h7,h8,h9,h10⟩:=h6 i hi
  exact ⟨x,vs,h7,h8,h9,h i hi S w x h10⟩
theorem LeV.ro {ag : Bool} {sz n m : Nat} {f g : Nat → D} (e : n = m) (h : ∀ i,i < n → Le (f i) (g i)) : LeV (.ro ag sz n f) (.ro ag sz m g):=fun H φ S w v hv => by
  subst e
  simp only [RepV] at hv ⊢
  exact Le.ro h S w v hv
theorem LeV.nils {ag : Bool} {sz : Nat} {f : Nat → D} : LeV .nils (.ro ag sz 0 f):=fun H φ S w v hv => by
  simp only [RepV,Rep0] at hv ⊢
  exact ⟨none,0,hv,by omega,by omega,fun h => by omega⟩
theorem LesV.nil : LesV [] []:=fun _ _ _ _ _ h => h
theorem LesV.cons {d d' : D} {ds ds' : List D} (h : LeV d d') (hs : LesV ds ds') : LesV (d :: ds) (d' :: ds'):=fun H φ S w vs hv => by
  simp only [RepVs] at hv ⊢
  obtain ⟨v,vs',e,h1,h2⟩:=hv
  exact ⟨v,vs',e,h H φ S w v h1,hs H φ S w vs' h2⟩
theorem LesV.refl (ds : List D) : LesV ds ds:=fun _ _ _ _ _ h => h
theorem LeV.agg {ds ds' : List D} (h : LesV ds ds') : LeV (.agg ds) (.agg ds'):=fun H φ S w v hv => by
  simp only [RepV] at hv ⊢
  obtain ⟨vs,e,h1⟩:=hv
  exact ⟨vs,e,h H φ S w vs h1⟩
theorem LeV.tup {ds ds' : List D} (h : LesV ds ds') : LeV (.tup ds) (.tup ds'):=fun H φ S w v hv => by
  simp only [RepV] at hv ⊢
  obtain ⟨vs,e,h1⟩:=hv
  exact ⟨vs,e,h H φ S w vs h1⟩
theorem Le.ofV {d d' : D} (hc : cl d' = true) (h : LeV d d') : Le d d':=fun S w v hv => cl_rep (H:=[]) (φ:=fun _ => none) d' v (h [] (fun _ => none) S w v (Rep0.toV _ _ hv)) hc
theorem CG.args {E : Ctx} {f : FuncId} {args args' : List D} {h h' : Hp} {d : D} (hc : CG E f args' h d h') (hl : LesV args args') : CG E f args h d h':=
  ⟨hc.1,fun S w vs φ h1 h2 h3 h4 h5 => hc.2 S w vs φ h1 h2 h3 h4 (hl _ _ _ _ _ h5)⟩
def resOf (tmps : Array Value) : ResultVar → Sem Value
  | .tmp t => pure (tmps.getD t undef)
  | .cell a t => do loadVar t (← asAddr (tmps.getD a undef))
theorem results_eq (fn : Func) (tmps : Array Value) : results fn tmps = (do
    let vs ← fn.results.mapM (resOf tmps)
    pure (if h : vs.size = 1 then vs[0] else .tuple vs)):=by
  unfold results
  congr 1
section
variable {E : Ctx} {B : Base} {s : St} {φ : Ph} {S : Nat → Prop} {a : Act} {w : World}
theorem resD_sound (hr : Rel B s φ S a w) : ∀ (rl : List ResultVar) (ds : List D),resD E s rl = some ds →
    ∃ vs,(rl.mapM (resOf a.tmps)).run E.P w = .ok vs w ∧ RepVs s.h φ S w ds vs
  | [],ds,h => by
    simp only [resD,Option.some.injEq] at h
    subst h
    exact ⟨[],rfl,rfl⟩
  | .tmp t :: r,ds,h => by
    simp only [resD] at h
    obtain ⟨ds',h1,rfl⟩:=Option.map_eq_some_iff.1 h
    obtain ⟨vs,h2,h3⟩:=resD_sound hr r ds' h1
    refine ⟨a.tmps.getD t undef :: vs, ?_, ?_⟩
    · simp only [List.mapM_cons,resOf,pure_bind,Sem.run_bind,h2,Result.andThen_ok,Sem.run_pure]
    · exact ⟨_,_,rfl,hr.env t,h3⟩
  | .cell t ty :: r,ds,h => by
    simp only [resD] at h
    split at h
    · cases h
    · rename_i hk
      obtain ⟨d,h0,h⟩:=Option.bind_eq_some_iff.1 h
      obtain ⟨ds',h1,rfl⟩:=Option.map_eq_some_iff.1 h
      obtain ⟨vs,h2,h3⟩:=resD_sound hr r ds' h1
      obtain ⟨x,h4,h5⟩:=ldd_sound (E:=E) hr.hp (t:=ty) (fun e => hk e) (hr.env t) h0
      refine ⟨x :: vs, ?_, ?_⟩
      · have h6 : (do loadVar ty (← asAddr (a.tmps.getD t undef)) : Sem Value).run E.P w = .ok x w:=by
          revert h4
          generalize a.tmps.getD t undef = v
          intro h4
          unfold Instr.loadAt at h4
          cases v
          case pointer o =>
            cases o with
            | some q => simpa [Instr.sureAddr,asAddr] using h4
            | none => simp [Instr.sureAddr,stuck] at h4
          all_goals simp [Instr.sureAddr,stuck] at h4
        rw [List.mapM_cons]
        show (resOf a.tmps (.cell t ty) >>= fun b => _ : Sem (List Value)).run E.P w = _
        rw [Sem.run_bind,show (resOf a.tmps (.cell t ty)).run E.P w = .ok x w from h6]
        simp only [Result.andThen_ok,Sem.run_bind,h2,Sem.run_pure]
      · exact ⟨_,_,rfl,h5,h3⟩
theorem RepVs.getD {H : Hp} : ∀ {ds : List D} {vs : List Value},RepVs H φ S w ds vs → ∀ (rest : List Value) (t : Nat),RepV H φ S w (ds.getD t .unk) ((vs ++ rest).getD t undef)
  | [],vs,h,rest,t => by simp [RepV,Rep0]
  | d :: ds,vs,h,rest,t => by
    simp only [RepVs] at h
    obtain ⟨v,vs',rfl,h1,h2⟩:=h
    cases t with
    | zero => simpa using h1
    | succ t => simpa using h2.getD rest t
def kH (ρ : Nat → Option Nat) (H : Hp) : Hp → Hp
  | [] => []
  | (i,_) :: r => match lookB H i with
    | some x => (i,impB ρ H x) :: kH ρ H r
    | none => kH ρ H r
theorem HLe.look {ρ : Nat → Option Nat} {H : Hp} : ∀ {h' : Hp},HLe ρ H h' → ∀ i y,lookB h' i = some y → ∃ x,lookB H i = some x ∧ BLe (some (impB ρ H x)) y
  | (j,z) :: r,h,i,y,hl => by
    simp only [HLe] at h
    simp only [lookB] at hl
    split at hl
    · rename_i e
      subst e
      cases hl
      cases hx : lookB H i with
      | none => rw [hx] at h;cases h.1
      | some x => rw [hx] at h;exact ⟨x,rfl,h.1⟩
    · exact HLe.look h.2 i y hl
theorem kH_look {ρ : Nat → Option Nat} {H : Hp} : ∀ {h' : Hp},HLe ρ H h' → ∀ i,lookB (kH ρ H h') i = if (lookB h' i).isSome then (lookB H i).map (impB ρ H) else none
  | [],_,i => by simp [kH,lookB]
  | (j,z) :: r,h,i => by
    have h':=h
    simp only [HLe] at h
    cases hx : lookB H j with
    | none => rw [hx] at h;cases h.1
    | some x =>
      simp only [kH,hx,lookB]
      by_cases e : i = j
      · subst e;simp [hx]
      · simp only [if_neg e]
        exact kH_look h.2 i
theorem HLe.mem {h' : Hp} : ∀ b,(lookB h' b).isSome = true → ∃ p ∈ h',p.1 = b:=by
  induction h' with
  | nil => intro b hb;cases hb
  | cons p r ih =>
    intro b hb
    obtain ⟨j,z⟩:=p
    simp only [lookB] at hb
    split at hb
    · rename_i e;exact ⟨(j,z),by simp,e.symm⟩
    · obtain ⟨q,hq,e⟩:=ih b hb
      exact ⟨q,by simp [hq],e⟩
def EnvLe (ρ : Nat → Option Nat) (H : Hp) (e : Nat → D) : List (Nat × D) → Prop
  | [] => True
  | (t,d) :: r => LeV (imp ρ H (e t)) d ∧ EnvLe ρ H e r
theorem EnvLe.look {ρ : Nat → Option Nat} {H : Hp} {e : Nat → D} : ∀ {L : List (Nat × D)},EnvLe ρ H e L → ∀ t,LeV (imp ρ H (e t)) (look .unk L t)
  | [],_,t => LeV.unk _
  | (t',d) :: r,h,t => by
    simp only [Lv.look]
    split
    · rename_i e;subst e;exact h.1
    · exact EnvLe.look h.2 t
theorem Wk.gen {n : Nat} {e : Nat → D} {h : Hp} {nx : Nat} (L : List (Nat × D)) (h' : Hp) (nx' : Nat) (hn : n ≤ nx') (hm : mx h' ≤ nx') (hL : EnvLe (kp h') h e L) (hH : HLe (kp h') h h') : Wk n ⟨e,h,nx⟩ ⟨Lv.look .unk L,h',nx'⟩:=by
  intro B φ S a w hnB hr
  let fs:=L.flatMap (fun p => refs (kp h') (e p.1)) ++ h'.flatMap fun p => refB (kp h') (lookB h p.1)
  let h2':=kH (kp h') h h'
  have hlook : ∀ i,lookB h2' i = if (lookB h' i).isSome then (lookB h i).map (impB (kp h') h) else none:=kH_look hH
  have hkp : ∀ b i,kp h' b = some i → i = b ∧ (lookB h' b).isSome = true:=fun b i e => by
    unfold kp at e
    split at e
    · rename_i hs;exact ⟨(Option.some.inj e).symm,hs⟩
    · cases e
  have hρ : ∀ b i,kp h' b = some i → ∀ x,lookB h b = some x → lookB h2' i = some (impB (kp h') h x) ∧ φ i = φ b:=fun b i e x hx => by
    obtain ⟨rfl,hs⟩:=hkp b i e
    exact ⟨by rw [hlook,if_pos hs,hx];rfl,rfl⟩
  have hback : ∀ i y,lookB h2' i = some y → ∃ b x,kp h' b = some i ∧ lookB h b = some x ∧ y = impB (kp h') h x:=fun i y e => by
    rw [hlook] at e
    split at e
    · rename_i hs
      obtain ⟨x,hx,rfl⟩:=Option.map_eq_some_iff.1 e
      exact ⟨i,x,by unfold kp;rw [if_pos hs],hx,rfl⟩
    · cases e
  have hfs : ∀ b,b ∈ fs → kp h' b = none:=fun b hb => by
    rcases List.mem_append.1 hb with hb | hb
    · obtain ⟨t,_,hb⟩:=List.mem_flatMap.1 hb
      exact (refs_none _).1 _ _ hb
    · obtain ⟨p,hp,hb⟩:=List.mem_flatMap.1 hb
      unfold refB at hb
      split at hb
      · exact (refs_none _).1 _ _ hb
      · cases hb
  have hrf : ∀ b i ag sz d ty,kp h' b = some i → lookB h b = some (.var ag sz d ty) → ∀ b',b' ∈ refs (kp h') d → b' ∈ fs:=fun b i ag sz d ty e hl b' hb' => by
    obtain ⟨rfl,hs⟩:=hkp b i e
    obtain ⟨p,hp,e⟩:=HLe.mem i hs
    exact List.mem_append_right _ (List.mem_flatMap.2 ⟨p,hp,by rw [e];simp [refB,hl,hb']⟩)
  have hhp2 : HpAt h2' φ (Fz h φ S fs) w:=imp_hp hr.hp hρ hback hfs hrf
  have hz:=hr.frz fs
  have hB2 : ∀ i y,lookB h' i = some y → ∃ x,lookB h i = some x ∧ lookB h2' i = some (impB (kp h') h x) ∧ BLe (some (impB (kp h') h x)) y:=fun i y e => by
    obtain ⟨x,hx,hle⟩:=hH.look i y e
    exact ⟨x,hx,by rw [hlook,e,hx];rfl,hle⟩
  have hB3 : ∀ i x,lookB h2' i = some x → ∃ y,lookB h' i = some y ∧ BLe (some x) y:=fun i x e => by
    have e':=e
    rw [hlook] at e'
    split at e'
    · rename_i hs
      obtain ⟨y,hy⟩:=Option.isSome_iff_exists.1 hs
      obtain ⟨x',_,e2,hle⟩:=hB2 i y hy
      rw [e] at e2
      cases e2
      exact ⟨y,hy,hle⟩
    · cases e'
  have hx2 : HpExt h2' φ h' φ:=fun b => ⟨fun ag sz d ty e => by
      obtain ⟨y,hy,hle⟩:=hB3 b _ e
      cases y with
      | var ag' sz' d' ty' => obtain ⟨rfl,rfl,rfl,_⟩:=hle;exact ⟨⟨_,hy⟩,rfl⟩
      | row => exact hle.elim,
    fun fz ver ag sz m f ty e => by
      obtain ⟨y,hy,hle⟩:=hB3 b _ e
      cases y with
      | var => exact hle.elim
      | row fz' ver' ag' sz' m' f' tyr' => obtain ⟨rfl,rfl,rfl,rfl,rfl,_⟩:=hle;exact ⟨_,_,_,_,_,hy,Nat.le_refl _,fun _ => ⟨Nat.le_refl _,rfl⟩⟩⟩
  have hk : Kept (Fz h φ S fs) w w:=fun _ _ => rfl
  refine ⟨φ,Fz h φ S fs,fun t => ?_,hr.size,⟨fun b y e => ?_,fun b b' y y' c t t' l l' p p' => ?_⟩,fun b y e => Nat.lt_of_lt_of_le (mx_lt e) hm,hz.slt,fun b y c t e hp => ?_,fun b y c t e hp => ?_,hz.s0,hz.s1,hr.below,fun b hb => ?_,Nat.le_trans hnB hn,hr.def0.move fun D hD _ hS ho => ⟨rfl,fun h => ?_,fun b y c t l p => ?_⟩⟩
  · by_cases ht : ∃ p ∈ L,p.1 = t
    · obtain ⟨p,hp,rfl⟩:=ht
      have:=imp_rep (fs:=fs) hr.hp hρ (e p.1) _ (hr.env p.1) fun b hb => List.mem_append_left _ (List.mem_flatMap.2 ⟨p,hp,hb⟩)
      exact hL.look p.1 _ _ _ _ _ (RepV.mono hx2 hk (fun _ h => h) _ _ this)
    · have : ∀ L : List (Nat × D),(¬ ∃ p ∈ L,p.1 = t) → Lv.look .unk L t = .unk:=by
        intro L
        induction L with
        | nil => intro _;rfl
        | cons q r ih =>
          intro hn
          obtain ⟨t',d⟩:=q
          simp only [Lv.look]
          rw [if_neg fun e => hn ⟨(t',d),by simp,e.symm⟩]
          exact ih fun ⟨p,hp,e⟩ => hn ⟨p,by simp [hp],e⟩
      show RepV h' φ (Fz h φ S fs) w (Lv.look .unk L t) _
      rw [this L ht]
      simp [RepV,Rep0]
  · obtain ⟨x,hx,e2,hle⟩:=hB2 b y e
    have hblk:=hhp2.blk b _ e2
    revert hblk hle
    generalize impB (kp h') h x = z
    intro hle hblk
    cases z with
    | var ag sz d0 ty =>
      cases y with
      | row => exact hle.elim
      | var ag' sz' d' ty' =>
        obtain ⟨rfl,rfl,rfl,hle⟩:=hle
        obtain ⟨c,t,g1,g2,x,vs,e,lo,hi,g3,g4,g5,g6,g7⟩:=hblk
        exact ⟨c,t,g1,g2,x,vs,e,lo,hi,g3,g4,g5,g6,hle _ _ _ _ _ (RepV.mono hx2 hk (fun _ h => h) _ _ g7.1),g7.2⟩
    | row fz ver ag sz n f tyr =>
      cases y with
      | var => exact hle.elim
      | row fz' ver' ag' sz' n' f' tyr' =>
        obtain ⟨rfl,rfl,rfl,rfl,rfl,htl,hle⟩:=hle
        refine ⟨hblk.1,fun c tot e => ?_⟩
        obtain ⟨g1,g2,g3,g4,vs,ty,lo,hi,g5,g6,g7,g8,g9⟩:=hblk.2 c tot e
        refine ⟨g1,g2,g3,g4,vs,ty,lo,hi,g5,g6,g7,fun i hi => ?_,htl.of g9⟩
        obtain ⟨x,k1,k2⟩:=g8 i hi
        exact ⟨x,k1,hle i hi _ _ _ k2⟩
  · obtain ⟨x,_,e2,_⟩:=hB2 b y l
    obtain ⟨x',_,e2',_⟩:=hB2 b' y' l'
    exact hhp2.inj b b' _ _ c t t' e2 e2' p p'
  · obtain ⟨x,hx,_,_⟩:=hB2 b y e
    exact hr.plt b x c t hx hp
  · obtain ⟨x,hx,_,_⟩:=hB2 b y e
    exact hr.old b x c t hx hp
  · obtain ⟨y,hy⟩:=Option.isSome_iff_exists.1 hb
    obtain ⟨x,hx,_,hle⟩:=hB2 b y hy
    have hext:=hr.ext b (by rw [hx];rfl)
    refine ⟨fun ag sz d ty e => ?_,fun fz ver ag sz m f ty e => ?_⟩
    · obtain ⟨⟨d1,e4⟩,e5⟩:=hext.1 ag sz d ty e
      have e4' : lookB h b = some (.var ag sz d1 ty):=e4
      rw [hx] at e4'
      cases e4'
      cases y with
      | row => exact hle.elim
      | var ag' sz' d' ty' => obtain ⟨rfl,rfl,rfl,_⟩:=hle;exact ⟨⟨_,hy⟩,e5⟩
    · obtain ⟨fz2,ver2,m2,f2,ty2,e4,e5,e6⟩:=hext.2 _ _ _ _ _ _ _ e
      have e4' : lookB h b = _:=e4
      rw [hx] at e4'
      cases e4'
      cases y with
      | var => exact hle.elim
      | row fz' ver' ag' sz' m' f' tyr' => obtain ⟨rfl,rfl,rfl,rfl,rfl,_⟩:=hle;exact ⟨_,_,_,_,_,hy,e5,e6⟩
  · rcases h with h | ⟨b',hb',fz',ver',ag',sz',n',f',ty',t',l',p'⟩
    · exact hS h
    · exact ho b' _ D t' l' p' rfl
  · obtain ⟨x,hx,_,_⟩:=hB2 b y l
    exact ho b x c t hx p
def mark (D : Nat) : Deferred:={ target:=.collected D,args:=#[] }
theorem Rel.unmark (hn0 : B.w0.heap.size ≤ B.n0) (hr : Rel B s φ S a w) {D : Nat} {Ds : List Nat} (ha : a.defers = mark D :: Ds.map mark) : w.heap[D]? = some (.deferred (some [])) ∧ Rel B s φ S { a with defers:=Ds.map mark } (w.putObj D (.deferred none)):=by
  obtain ⟨Ds',e,hn,hD⟩:=hr.def0
  have e' : Ds' = D :: Ds:=by
    have hinj : ∀ l l' : List Nat,l.map mark = l'.map mark → l = l':=by
      intro l
      induction l with
      | nil => intro l' h;cases l' with
        | nil => rfl
        | cons => simp at h
      | cons x l ih => intro l' h;cases l' with
        | nil => simp at h
        | cons y l' =>
          simp only [List.map_cons,List.cons.injEq,mark,Deferred.mk.injEq,Target.collected.injEq,and_true] at h
          rw [h.1,ih l' h.2]
    exact hinj _ _ (e.symm.trans ha)
  subst e'
  obtain ⟨h1,h2,h3,h4⟩:=hD D (by simp)
  obtain ⟨hn1,hn2⟩:=List.nodup_cons.1 hn
  have hlt:=(Array.getElem?_eq_some_iff.1 h1).1
  have hoth : ∀ k,k ≠ D → (w.putObj D (.deferred none)).heap[k]? = w.heap[k]?:=fun k hk => World.putObj_heap_other hk
  have hsz : (w.putObj D (.deferred none)).heap.size = w.heap.size:=by simp [World.putObj]
  have hk : Kept S w (w.putObj D (.deferred none)):=fun b hb => hoth b fun e => h3 (e ▸ hb)
  refine ⟨h1,fun i => RepV.mono (HpExt.refl _ _) hk (fun _ h => h) _ _ (hr.env i),hr.size,⟨fun b x hl => BlkAt.move (HpExt.refl _ _) hk (fun _ h => h) rfl (fun c t hp => hoth c (h4 b x c t hl hp)) (fun _ _ _ h => h) (hr.hp.blk b x hl),hr.hp.inj⟩,hr.nx,fun b h => hsz ▸ hr.slt b h,fun b x c t hl hp => hsz ▸ hr.plt b x c t hl hp,hr.old,hr.s0,hr.s1,⟨hr.below.os,hr.below.tape,hr.below.output,hsz ▸ hr.below.size,fun k hk hG => (hoth k (by omega)).trans (hr.below.block k hk hG)⟩,hr.ext,hr.nx0,⟨Ds,rfl,hn2,fun D' hD' => ?_⟩⟩
  obtain ⟨g1,g2,g3,g4⟩:=hD D' (by simp [hD'])
  exact ⟨(hoth D' fun e => hn1 (e ▸ hD')).trans g1,g2,g3,g4⟩
theorem leave (hn0 : B.w0.heap.size ≤ B.n0) {fn : Func} {R : Ending → World → Prop} {P : Program} : ∀ (Ds : List Nat) (a : Act) (w : World),a.defers = Ds.map mark → Rel B s φ S a w →
    (∀ a' w',a'.tmps = a.tmps → Rel B s φ S a' w' → ∃ v,(results fn a'.tmps).run P w' = .ok v w' ∧ R (.returned v) w') → LeavesInM (WF none) 0 P fn a.tmps R (Ds.map mark) .returning w
  | [],a,w,_,hr,h => h a w rfl hr
  | D :: Ds,a,w,ha,hr,h => by
    obtain ⟨h1,h2⟩:=hr.unmark hn0 ha
    exact ⟨by simp, .inl ⟨D,_,rfl,run_takeDeferred h1,leave hn0 Ds { a with defers:=Ds.map mark } _ rfl h2 h⟩⟩
theorem CG_intro {f : FuncId} {fn : Func} {body : Code} {rl : List ResultVar} {args : List D} {h0 h' : Hp} {d : D} (hf : E.P.funcs[f]? = some fn) (hb : fn.body = some body) (hn : (fn.name == "runtime.NumGoroutine") = false) (hres : fn.results = ⟨rl⟩)
    (ho : codeOk fn.ntmps body = true) (hl : decide (args.length ≤ fn.ntmps) = true) (hkeys : (h0.all fun p => (lookB h' p.1).isSome) = true) (h : AW E body (retQ E rl d h') (St.init args h0)) : CG E f args h0 d h':=by
  refine ⟨by simp [fnOk,hf,hb];simpa using hn,fun S w vs φ hS hG hhp hGB hvs => (callsIn_wide (n:=0)).1 (callsIn_of_wp_marks (F:=WF none) hf hb trivial ?_)⟩
  let B : Base:=⟨w,S,GB h0 φ,fn.ntmps,h0,φ,w.heap.size⟩
  have hB : BOK E B:=⟨hG,fun b hb => ⟨hS b hb,fun h => (hGB b h).2 hb⟩⟩
  have hlen:=hvs.length
  have hl' : args.length ≤ fn.ntmps:=by simpa using hl
  have hr : Rel B (St.init args h0) φ S { tmps:=⟨vs⟩ ++ Array.replicate (fn.ntmps - (⟨vs⟩ : Array Value).size) undef,defers:=[] } w:=by
    refine ⟨fun t => ?_, ?_,hhp,fun b x hl => mx_lt hl,hS,fun b x c t hl hp => (hGB c ⟨b,x,t,hl,hp⟩).1,fun b x c t hl hp => .inr ⟨b,x,t,hl,hp⟩,fun b h => h,fun b h _ => .inl h,⟨rfl,rfl,rfl,Nat.le_refl _,fun _ _ _ => rfl⟩,HpOn.refl _ _,Nat.le_refl _,Marked.nil _ _ _ _ _⟩
    · have:=hvs.getD (List.replicate (fn.ntmps - vs.length) undef) t
      have e : ((⟨vs⟩ : Array Value) ++ Array.replicate (fn.ntmps - (⟨vs⟩ : Array Value).size) undef).getD t undef = (vs ++ List.replicate (fn.ntmps - vs.length) undef).getD t undef:=by
        rw [Array.getD_eq_getD_getElem?,List.getD_eq_getElem?_getD]
        congr 1
        rw [← Array.getElem?_toList]
        simp
      rw [e]
      exact this
    · show ((⟨vs⟩ : Array Value) ++ Array.replicate (fn.ntmps - (⟨vs⟩ : Array Value).size) undef).size = fn.ntmps
      simp
      omega
  refine AW_sound body B hB none (.inl ⟨rfl,Nat.le_refl _⟩) _ _ _ _ _ _ _ ho (fun e s φ1 S1 a w1 hr h => ?_) hr h
  have ret : ∀ a w1,Rel B s φ1 S1 a w1 → ork ((resD E s rl).map fun ds => imp (kp h') s.h (one' ds)) (fun d' => LeV d' d) False ∧ HLe (kp h') s.h h' → ∃ v,(results fn a.tmps).run E.P w1 = .ok v w1 ∧ ∃ v' S' φ',Ending.returned v = .returned v' ∧ RepV h' φ' S' w1 d v' ∧ HpAt h' φ' S' w1 ∧ HpExt h0 φ h' φ' ∧
      (∀ c,GB h' φ' c → c < w1.heap.size ∧ (w.heap.size ≤ c ∨ GB h0 φ c)) ∧ Trod (GB h0 φ) w w1 ∧ (∀ b,S b → S' b) ∧ (∀ b,S' b → b < w1.heap.size) ∧ ∀ b,S' b → b < w.heap.size → S b ∨ GB h0 φ b:=by
    rintro a w1 hr ⟨h,hH⟩
    unfold ork at h
    split at h
    · rename_i d' hd'
      obtain ⟨ds,h1,h2⟩:=Option.map_eq_some_iff.1 hd'
      obtain ⟨vs',h3,h4⟩:=resD_sound hr rl ds h1
      have h5 : ∃ v,(results fn a.tmps).run E.P w1 = .ok v w1 ∧ RepV s.h φ1 S1 w1 (one' ds) v:=by
        rw [results_eq,hres,show (⟨rl⟩ : Array ResultVar) = rl.toArray from rfl,List.mapM_toArray]
        simp only [map_eq_pure_bind,bind_assoc,pure_bind,Sem.run_bind,h3,Result.andThen_ok,Sem.run_pure]
        match ds,h4 with
        | [],h4 =>
          simp only [RepVs] at h4
          subst h4
          exact ⟨_,rfl,by simp [one',RepV,RepVs]⟩
        | [x],h4 =>
          simp only [RepVs] at h4
          obtain ⟨v,vs'',rfl,h6,rfl⟩:=h4
          exact ⟨v,rfl,h6⟩
        | x :: y :: r,h4 =>
          have h4':=h4
          simp only [RepVs] at h4
          obtain ⟨v,vs'',rfl,h6,v2,vs3,rfl,h7,h8⟩:=h4
          refine ⟨.tuple ⟨v :: v2 :: vs3⟩, ?_, ?_⟩
          · rw [dif_neg (by simp)]
          · simp only [one',RepV]
            exact ⟨_,rfl,h4'⟩
      obtain ⟨v,h6,h7⟩:=h5
      let fs:=refs (kp h') (one' ds) ++ h'.flatMap fun p => refB (kp h') (lookB s.h p.1)
      let h2':=kH (kp h') s.h h'
      have hlook : ∀ i,lookB h2' i = if (lookB h' i).isSome then (lookB s.h i).map (impB (kp h') s.h) else none:=kH_look hH
      have hkp : ∀ b i,kp h' b = some i → i = b ∧ (lookB h' b).isSome = true:=fun b i e => by
        unfold kp at e
        split at e
        · rename_i hs;exact ⟨(Option.some.inj e).symm,hs⟩
        · cases e
      have hρ : ∀ b i,kp h' b = some i → ∀ x,lookB s.h b = some x → lookB h2' i = some (impB (kp h') s.h x) ∧ φ1 i = φ1 b:=fun b i e x hx => by
        obtain ⟨rfl,hs⟩:=hkp b i e
        exact ⟨by rw [hlook,if_pos hs,hx];rfl,rfl⟩
      have hback : ∀ i y,lookB h2' i = some y → ∃ b x,kp h' b = some i ∧ lookB s.h b = some x ∧ y = impB (kp h') s.h x:=fun i y e => by
        rw [hlook] at e
        split at e
        · rename_i hs
          obtain ⟨x,hx,rfl⟩:=Option.map_eq_some_iff.1 e
          exact ⟨i,x,by unfold kp;rw [if_pos hs],hx,rfl⟩
        · cases e
      have hfs : ∀ b,b ∈ fs → kp h' b = none:=fun b hb => by
        rcases List.mem_append.1 hb with hb | hb
        · exact (refs_none _).1 _ _ hb
        · obtain ⟨p,hp,hb⟩:=List.mem_flatMap.1 hb
          unfold refB at hb
          split at hb
          · exact (refs_none _).1 _ _ hb
          · cases hb
      have hmem : ∀ (h' : Hp) b,(lookB h' b).isSome = true → ∃ p ∈ h',p.1 = b:=by
        intro h'
        induction h' with
        | nil => intro b hb;cases hb
        | cons p r ih =>
          intro b hb
          obtain ⟨j,z⟩:=p
          simp only [lookB] at hb
          split at hb
          · rename_i e;exact ⟨(j,z),by simp,e.symm⟩
          · obtain ⟨q,hq,e⟩:=ih b hb
            exact ⟨q,by simp [hq],e⟩
      have hrf : ∀ b i ag sz d ty,kp h' b = some i → lookB s.h b = some (.var ag sz d ty) → ∀ b',b' ∈ refs (kp h') d → b' ∈ fs:=fun b i ag sz d ty e hl b' hb' => by
        obtain ⟨rfl,hs⟩:=hkp b i e
        obtain ⟨p,hp,e⟩:=hmem h' i hs
        exact List.mem_append_right _ (List.mem_flatMap.2 ⟨p,hp,by rw [e];simp [refB,hl,hb']⟩)
      have hhp2 : HpAt h2' φ1 (Fz s.h φ1 S1 fs) w1:=imp_hp hr.hp hρ hback hfs hrf
      have hrep:=imp_rep (fs:=fs) hr.hp hρ (one' ds) v h7 fun b hb => List.mem_append_left _ hb
      have hz:=hr.frz fs
      have hB2 : ∀ i y,lookB h' i = some y → ∃ x,lookB s.h i = some x ∧ lookB h2' i = some (impB (kp h') s.h x) ∧ BLe (some (impB (kp h') s.h x)) y:=fun i y e => by
        obtain ⟨x,hx,hle⟩:=hH.look i y e
        exact ⟨x,hx,by rw [hlook,e,hx];rfl,hle⟩
      have hB3 : ∀ i x,lookB h2' i = some x → ∃ y,lookB h' i = some y ∧ BLe (some x) y:=fun i x e => by
        have e':=e
        rw [hlook] at e'
        split at e'
        · rename_i hs
          obtain ⟨y,hy⟩:=Option.isSome_iff_exists.1 hs
          obtain ⟨x',_,e2,hle⟩:=hB2 i y hy
          rw [e] at e2
          cases e2
          exact ⟨y,hy,hle⟩
        · cases e'
      have hx2 : HpExt h2' φ1 h' φ1:=fun b => ⟨fun ag sz d ty e => by
          obtain ⟨y,hy,hle⟩:=hB3 b _ e
          cases y with
          | var ag' sz' d' ty' => obtain ⟨rfl,rfl,rfl,_⟩:=hle;exact ⟨⟨_,hy⟩,rfl⟩
          | row => exact hle.elim,
        fun fz ver ag sz m f ty e => by
          obtain ⟨y,hy,hle⟩:=hB3 b _ e
          cases y with
          | var => exact hle.elim
          | row fz' ver' ag' sz' m' f' tyr' => obtain ⟨rfl,rfl,rfl,rfl,rfl,_⟩:=hle;exact ⟨_,_,_,_,_,hy,Nat.le_refl _,fun _ => ⟨Nat.le_refl _,rfl⟩⟩⟩
      have hk : Kept (Fz s.h φ1 S1 fs) w1 w1:=fun _ _ => rfl
      refine ⟨v,h6,v,Fz s.h φ1 S1 fs,φ1,rfl,h _ _ _ _ _ (h2 ▸ RepV.mono hx2 hk (fun _ h => h) _ _ hrep),⟨fun b y e => ?_,fun b b' y y' c t t' l l' p p' => ?_⟩,fun b => ⟨fun ag sz d ty e => ?_,fun fz ver ag sz m f ty e => ?_⟩,fun c hc => ?_,hr.below,hz.s0,hz.slt,hz.s1⟩
      · obtain ⟨x,hx,e2,hle⟩:=hB2 b y e
        have hblk:=hhp2.blk b _ e2
        revert hblk hle
        generalize impB (kp h') s.h x = z
        intro hle hblk
        cases z with
        | var ag sz d0 ty =>
          cases y with
          | row => exact hle.elim
          | var ag' sz' d' ty' =>
            obtain ⟨rfl,rfl,rfl,hle⟩:=hle
            obtain ⟨c,t,g1,g2,x,vs,e,lo,hi,g3,g4,g5,g6,g7⟩:=hblk
            exact ⟨c,t,g1,g2,x,vs,e,lo,hi,g3,g4,g5,g6,hle _ _ _ _ _ (RepV.mono hx2 hk (fun _ h => h) _ _ g7.1),g7.2⟩
        | row fz ver ag sz n f tyr =>
          cases y with
          | var => exact hle.elim
          | row fz' ver' ag' sz' n' f' tyr' =>
            obtain ⟨rfl,rfl,rfl,rfl,rfl,htl,hle⟩:=hle
            refine ⟨hblk.1,fun c tot e => ?_⟩
            obtain ⟨g1,g2,g3,g4,vs,ty,lo,hi,g5,g6,g7,g8,g9⟩:=hblk.2 c tot e
            refine ⟨g1,g2,g3,g4,vs,ty,lo,hi,g5,g6,g7,fun i hi => ?_,htl.of g9⟩
            obtain ⟨x,k1,k2⟩:=g8 i hi
            exact ⟨x,k1,hle i hi _ _ _ k2⟩
      · obtain ⟨x,_,e2,_⟩:=hB2 b y l
        obtain ⟨x',_,e2',_⟩:=hB2 b' y' l'
        exact hhp2.inj b b' _ _ c t t' e2 e2' p p'
      · have hk2:=List.all_eq_true.1 hkeys
        obtain ⟨p,hp,e3⟩:=hmem h0 b (by rw [e];rfl)
        have:=hk2 p hp
        rw [e3] at this
        obtain ⟨y,hy⟩:=Option.isSome_iff_exists.1 this
        obtain ⟨x,hx,_,hle⟩:=hB2 b y hy
        obtain ⟨⟨d1,e4⟩,e5⟩:=(hr.ext b (by rw [hx];rfl)).1 ag sz d ty e
        rw [hx] at e4
        cases e4
        cases y with
        | row => exact hle.elim
        | var ag' sz' d' ty' => obtain ⟨rfl,rfl,rfl,_⟩:=hle;exact ⟨⟨_,hy⟩,e5⟩
      · have hk2:=List.all_eq_true.1 hkeys
        obtain ⟨p,hp,e3⟩:=hmem h0 b (by rw [e];rfl)
        have:=hk2 p hp
        rw [e3] at this
        obtain ⟨y,hy⟩:=Option.isSome_iff_exists.1 this
        obtain ⟨x,hx,_,hle⟩:=hB2 b y hy
        obtain ⟨fz2,ver2,m2,f2,ty2,e4,e5,e6⟩:=(hr.ext b (by rw [hx];rfl)).2 _ _ _ _ _ _ _ e
        rw [hx] at e4
        cases e4
        cases y with
        | var => exact hle.elim
        | row fz' ver' ag' sz' n' f' tyr' => obtain ⟨rfl,rfl,rfl,rfl,rfl,_⟩:=hle;exact ⟨_,_,_,_,_,hy,e5,e6⟩
      · obtain ⟨b,y,t,e,hp⟩:=hc
        obtain ⟨x,hx,_,_⟩:=hB2 b y e
        exact ⟨hr.plt b x c t hx hp,hr.old b x c t hx hp⟩
    · exact h.elim
  have fin : ork ((resD E s rl).map fun ds => imp (kp h') s.h (one' ds)) (fun d' => LeV d' d) False ∧ HLe (kp h') s.h h' → LeavesInM (WF none) 0 E.P fn a.tmps (fun e w1 => ∃ v S' φ',e = .returned v ∧ RepV h' φ' S' w1 d v ∧ HpAt h' φ' S' w1 ∧ HpExt h0 φ h' φ' ∧ (∀ c,GB h' φ' c → c < w1.heap.size ∧ (w.heap.size ≤ c ∨ GB h0 φ c)) ∧ Trod (GB h0 φ) w w1 ∧
      (∀ b,S b → S' b) ∧ (∀ b,S' b → b < w1.heap.size) ∧ ∀ b,S' b → b < w.heap.size → S b ∨ GB h0 φ b) a.defers .returning w1:=fun h => by
    obtain ⟨Ds,e,_⟩:=hr.def0
    rw [show a.defers = Ds.map mark from e]
    exact leave (Nat.le_refl _) Ds a w1 e hr fun a' w' _ hr' => ret a' w' hr' h
  cases e <;> first | exact fin h | exact (show False from h).elim
end
section
variable {E : Ctx}
def AWu (E : Ctx) (c : Code) (Q : Exit → St → Prop) (s : St) : Prop:=AW E c Q s
def AXu (E : Ctx) (o : Oper) (K : St → Prop) (s : St) : Prop:=AX E o K s
def Ku (K : St → Prop) (s : St) : Prop:=K s
def EFu (E : Ctx) (s : St) (op : Op) (K : D → St → Prop) : Prop:=ef E s op K
theorem AX_eq (o : Oper) (K : St → Prop) (s : St) : AX E o K s = match o.op with
  | .call { callee:=.value f,args:=⟨xs⟩, .. } => match ev E s f with
    | .fn g cap => CallX E g (xs.map (ev E s) ++ cap) K s o.dst
    | _ => False
  | op => ork (pv E s op) (KP K s o.dst) (EFu E s op (KT K o.dst)):=propext Iff.rfl
theorem AW_skip (Q : Exit → St → Prop) (s : St) : AW E .skip Q s = Q .normal s:=propext Iff.rfl
theorem AW_seq (a b : Code) (Q : Exit → St → Prop) (s : St) : AW E (.seq a b) Q s = AW E a (thn (AW E b Q) Q) s:=propext Iff.rfl
theorem AW_region (id : Nat) (ops : Array Oper) (Q : Exit → St → Prop) (s : St) : AW E (.region id ops false) Q s = AR E ops ops.toList (Q .normal) s:=by
  simp [AW,AReg3]
structure RegOk (E : Ctx) (ops : Array Oper) : Prop where
  h : regOk E ops = true
structure RegCl (E : Ctx) (ops : Array Oper) : Prop where
  h : (!regOk E ops && regOk (E.lim noG) ops) = true
structure RegNo (E : Ctx) (ops : Array Oper) : Prop where
  h : (regOk E ops || regOk (E.lim noG) ops) = false
theorem rOk {E : Ctx} {ops : Array Oper} (h : regOk E ops = true:=by decide +kernel) : RegOk E ops:=⟨h⟩
theorem rCl {E : Ctx} {ops : Array Oper} (h : (!regOk E ops && regOk (E.lim noG) ops) = true:=by decide +kernel) : RegCl E ops:=⟨h⟩
theorem rNo {E : Ctx} {ops : Array Oper} (h : (regOk E ops || regOk (E.lim noG) ops) = false:=by kernel_rfl) : RegNo E ops:=⟨h⟩
theorem dd {P : Prop} (h : P:=by first | exact trivial | assumption | omega | exact rOk | exact rCl | exact rNo) : P:=h
theorem AW_drawn (id : Nat) (ops : Array Oper) (Q : Exit → St → Prop) (s : St) (h : RegOk E ops) : AW E (.region id ops true) Q s = AR E ops ops.toList (Q .normal) s:=by
  simp [AW,AReg3,h.h]
theorem AW_drawnC (id : Nat) (ops : Array Oper) (Q : Exit → St → Prop) (s : St) (h : RegCl E ops) : AW E (.region id ops true) Q s = AR (E.lim noG) ops ops.toList (Q .normal) s:=by
  have:=h.h
  simp only [Bool.and_eq_true,Bool.not_eq_true'] at this
  simp [AW,AReg3,this.1,this.2]
theorem AW_drawnN (id : Nat) (ops : Array Oper) (Q : Exit → St → Prop) (s : St) (h : RegNo E ops) : AW E (.region id ops true) Q s = AReg E ops true (Q .normal) s:=by
  have:=h.h
  simp only [Bool.or_eq_false_iff] at this
  simp [AW,AReg3,this.1,this.2]
theorem AW_cond (c : Operand) (a b : Code) (Q : Exit → St → Prop) (s : St) : AW E (.cond c a b) Q s = cnd (ev E s c) (AWu E a Q s) (AWu E b Q s):=propext Iff.rfl
theorem AW_block (id : Nat) (b : Code) (Q : Exit → St → Prop) (s : St) : AW E (.block id b) Q s = AW E b (blk id Q) s:=propext Iff.rfl
theorem AW_loop (b : Code) (Q : Exit → St → Prop) (s : St) : AW E (.loop b) Q s = AL (AW E b) Q s:=propext Iff.rfl
theorem AW_exit (id : Nat) (Q : Exit → St → Prop) (s : St) : AW E (.exit id) Q s = Q (.exit id) s:=propext Iff.rfl
theorem AW_ret (Q : Exit → St → Prop) (s : St) : AW E .ret Q s = Q .ret s:=propext Iff.rfl
theorem thn_normal (K : St → Prop) (Q : Exit → St → Prop) (s : St) : thn K Q .normal s = K s:=propext Iff.rfl
theorem thn_exit (K : St → Prop) (Q : Exit → St → Prop) (i : Nat) (s : St) : thn K Q (.exit i) s = Q (.exit i) s:=propext Iff.rfl
theorem thn_ret (K : St → Prop) (Q : Exit → St → Prop) (s : St) : thn K Q .ret s = Q .ret s:=propext Iff.rfl
theorem blk_normal (id : Nat) (Q : Exit → St → Prop) (s : St) : blk id Q .normal s = Q .normal s:=propext Iff.rfl
theorem blk_exit (id i : Nat) (Q : Exit → St → Prop) (s : St) : blk id Q (.exit i) s = if i = id then Q .normal s else Q (.exit i) s:=propext Iff.rfl
theorem blk_ret (id : Nat) (Q : Exit → St → Prop) (s : St) : blk id Q .ret s = Q .ret s:=propext Iff.rfl
theorem AR_nil (all : Array Oper) (K : St → Prop) (s : St) : AR E all [] K s = K s:=propext Iff.rfl
theorem AR_cons (all : Array Oper) (o : Oper) (os : List Oper) (K : St → Prop) (s : St) : AR E all (o :: os) K s = AT E all o (AR E all os K) s:=propext Iff.rfl
theorem AT_eq (all : Array Oper) (o : Oper) (K : St → Prop) (s : St) : AT E all o K s = match o.guard with
  | none => AX E o K s
  | some (g,want) => match (all[g]?).bind (·.dst) with
    | some t => gd (s.e t) want (AXu E o K s) (Ku K (s.put o.dst (.tup [])))
    | none => False:=propext Iff.rfl
theorem KP_eq (K : St → Prop) (s : St) (dst : Option Nat) (d : D) : KP K s dst d = K (s.put dst d):=propext Iff.rfl
theorem KT_eq (K : St → Prop) (dst : Option Nat) (d : D) (s : St) : KT K dst d s = K (s.put dst d):=propext Iff.rfl
theorem put_some (e : Nat → D) (h : Hp) (nx t : Nat) (d : D) : St.put ⟨e,h,nx⟩ (some t) d = ⟨upd e t d,h,nx⟩:=Eq.trans rfl rfl
theorem put_none (s : St) (d : D) : St.put s none d = s:=Eq.trans rfl rfl
theorem upd_eq (e : Nat → D) (t : Nat) (d : D) (t' : Nat) : upd e t d t' = if t' = t then d else e t':=Eq.trans rfl rfl
theorem ev_tmp (e : Nat → D) (h : Hp) (nx t : Nat) : ev E ⟨e,h,nx⟩ (.tmp t) = e t:=Eq.trans rfl rfl
theorem ev_const (s : St) (v : Value) : ev E s (.const v) = ofVal v:=Eq.trans rfl rfl
theorem ev_global (s : St) (g : Nat) : ev E s (.global g) = E.gv g:=Eq.trans rfl rfl
theorem ev_func (s : St) (f : Nat) : ev E s (.func f) = .fn f []:=Eq.trans rfl rfl
theorem init_eq (args : List D) (h : Hp) : St.init args h = ⟨fun t => args.getD t .unk,h,mx h⟩:=Eq.trans rfl rfl
theorem retQ_normal (rl : List ResultVar) (d : D) (h' : Hp) (s : St) : retQ E rl d h' .normal s = (ork ((resD E s rl).map fun ds => imp (kp h') s.h (one' ds)) (fun d' => LeV d' d) False ∧ HLe (kp h') s.h h'):=propext Iff.rfl
theorem retQ_ret (rl : List ResultVar) (d : D) (h' : Hp) (s : St) : retQ E rl d h' .ret s = (ork ((resD E s rl).map fun ds => imp (kp h') s.h (one' ds)) (fun d' => LeV d' d) False ∧ HLe (kp h') s.h h'):=propext Iff.rfl
def nof : Nat → Option Nat:=fun _ => none
theorem kp_nil : kp [] = nof:=Eq.trans rfl rfl
theorem pos_nil : pos [] = nof:=Eq.trans rfl rfl
theorem nof_eq (b : Nat) : nof b = none:=Eq.trans rfl rfl
theorem kp_eq (h : Hp) (b : Nat) : kp h b = if (lookB h b).isSome then some b else none:=Eq.trans rfl rfl
mutual
theorem cl_ex (r : Nat → Nat) : ∀ (d : D),cl d = true → exD r d = d
  | .int ..,_ | .bool ..,_ | .str ..,_ | .nilp,_ | .nils,_ | .nilm,_ | .nilf,_ | .gl ..,_ | .unk,_ | .ro ..,_ | .ra ..,_ => rfl
  | .sl ..,h | .ad ..,h | .el ..,h | .vs ..,h => by simp [cl] at h
  | .agg cs,h => by simp only [exD,cls_ex r cs (by simpa only [cl] using h)]
  | .tup cs,h => by simp only [exD,cls_ex r cs (by simpa only [cl] using h)]
  | .fn f cs,h => by simp only [exD,cls_ex r cs (by simpa only [cl] using h)]
theorem cls_ex (r : Nat → Nat) : ∀ (ds : List D),cls ds = true → exDs r ds = ds
  | [],_ => rfl
  | d :: ds,h => by
    simp only [cls,Bool.and_eq_true] at h
    simp only [exDs,cl_ex r d h.1,cls_ex r ds h.2]
end
mutual
theorem cl_imp (ρ : Nat → Option Nat) (H : Hp) : ∀ (d : D),cl d = true → imp ρ H d = d
  | .int ..,_ | .bool ..,_ | .str ..,_ | .nilp,_ | .nils,_ | .nilm,_ | .nilf,_ | .gl ..,_ | .unk,_ | .ro ..,_ | .ra ..,_ => rfl
  | .sl ..,h | .ad ..,h | .el ..,h | .vs ..,h => by simp [cl] at h
  | .agg cs,h => by simp only [imp,cls_imp ρ H cs (by simpa only [cl] using h)]
  | .tup cs,h => by simp only [imp,cls_imp ρ H cs (by simpa only [cl] using h)]
  | .fn f cs,h => by simp only [imp,cls_imp ρ H cs (by simpa only [cl] using h)]
theorem cls_imp (ρ : Nat → Option Nat) (H : Hp) : ∀ (ds : List D),cls ds = true → imps ρ H ds = ds
  | [],_ => rfl
  | d :: ds,h => by
    simp only [cls,Bool.and_eq_true] at h
    simp only [imps,cl_imp ρ H d h.1,cls_imp ρ H ds h.2]
end
theorem callC {g : FuncId} {ds args : List D} {K : St → Prop} {s : St} {dst : Option Nat} {d : D} (hC : C E g args d) (hl : LesV (imps nof s.h ds) args) (hcl : cl d = true) (hK : K ((if flat d = true then s else s.frz (refss nof ds)).put dst d)) : CallX E g ds K s dst:=by
  refine .inl ⟨[],d,[], .inr rfl,rfl,CG.args hC hl, ?_⟩
  rw [cl_ex _ d hcl]
  by_cases hf : flat d = true
  · rw [if_pos hf] at hK
    have : aft s [] [] [] = s:=by simp [aft,mrg,frz_nil,mx]
    simp only [hf,List.isEmpty_nil,Bool.and_true,if_true,this]
    exact hK
  · rw [if_neg hf] at hK
    have e : (flat d && List.isEmpty ([] : Hp)) = false:=by simp [hf]
    simp only [e,Bool.false_eq_true,if_false]
    have : aft s [] (fsOf s [] ds) [] = s.frz (refss nof ds):=by simp [aft,mrg,mx,fsOf,St.frz,pos_nil]
    rw [this]
    exact hK
theorem cA {g : FuncId} {ds args : List D} {K : St → Prop} {s : St} {dst : Option Nat} {d : D} (hC : C E g args d) (hK : K ((if flat d = true then s else s.frz (refss nof ds)).put dst d)) (hl : LesV (imps nof s.h ds) args:=by simp (disch:=first|exact dd|fail) only [go_sem,seval] <;> exact LesV.refl _) (hcl : cl d = true:=by rfl) : CallX E g ds K s dst:=callC hC hl hcl hK
theorem callG (bs : List Nat) {g : FuncId} {ds args : List D} {K : St → Prop} {s : St} {dst : Option Nat} {d : D} {h h' : Hp} (hC : CG E g args h d h') (hgive : E.give g = true) (hg : givOk s.h bs = true) (hl : LesV (imps (pos bs) s.h ds) args) (hh : impH (pos bs) s.h bs 0 = h)
    (hK : K ((aft s bs (if flat d && h'.isEmpty then [] else fsOf s bs ds) h').put dst (exD (ex bs s.nx) d))) : CallX E g ds K s dst:=
  .inl ⟨bs,d,h', .inl hgive,hg,by rw [hh];exact CG.args hC hl,hK⟩
theorem callI {g : FuncId} {d : D} {K : St → Prop} {s : St} {dst : Option Nat} (hf : IdFn E.P g) (hK : K (s.put dst d)) : CallX E g [d] K s dst:=.inr (.inr ⟨hf,d,rfl,hK⟩)
theorem lim_tt (gs : Nat → Bool) (t : Nat) : (E.lim gs).tt t = E.tt t:=Eq.trans rfl rfl
theorem callCl {gs : Nat → Bool} {g : FuncId} {ds args : List D} {K : St → Prop} {s : St} {dst : Option Nat} {d : D} (hC : C E g args d) (hl : LesV (imps nof s.h ds) args) (hcl : cl d = true) (hK : K ((if flat d = true then s else s.frz (refss nof ds)).put dst d)) : CallX (E.lim gs) g ds K s dst:=
  callC (E:=E.lim gs) hC hl hcl hK
theorem cL {gs : Nat → Bool} {g : FuncId} {ds args : List D} {K : St → Prop} {s : St} {dst : Option Nat} {d : D} (hC : C E g args d) (hK : K ((if flat d = true then s else s.frz (refss nof ds)).put dst d)) (hl : LesV (imps nof s.h ds) args:=by simp (disch:=first|exact dd|fail) only [go_sem,seval] <;> exact LesV.refl _) (hcl : cl d = true:=by rfl) : CallX (E.lim gs) g ds K s dst:=callCl hC hl hcl hK
theorem callGl (bs : List Nat) {gs : Nat → Bool} {g : FuncId} {ds args : List D} {K : St → Prop} {s : St} {dst : Option Nat} {d : D} {h h' : Hp} (hC : CG E g args h d h') (hgive : gs g = true) (hg : givOk s.h bs = true) (hl : LesV (imps (pos bs) s.h ds) args) (hh : impH (pos bs) s.h bs 0 = h)
    (hK : K ((aft s bs (if flat d && h'.isEmpty then [] else fsOf s bs ds) h').put dst (exD (ex bs s.nx) d))) : CallX (E.lim gs) g ds K s dst:=
  callG (E:=E.lim gs) bs hC hgive hg hl hh hK
theorem ork_some (d : D) (K : D → Prop) (F : Prop) : ork (some d) K F = K d:=propext Iff.rfl
theorem ork_none_ef (K : D → Prop) (s : St) (op : Op) (K' : D → St → Prop) : ork none K (EFu E s op K') = ef E s op K':=propext Iff.rfl
theorem ork_grd (c : Prop) [Decidable c] (d : D) (K : D → Prop) (F : Prop) (hc : c) : ork (grd c d) K F = K d:=by simp [grd,hc,ork]
theorem grd_true [Decidable True] (d : D) : grd True d = some d:=by simp [grd]
theorem min_pos (a b : Nat) (h : a ≤ b) : min a b = a:=Nat.min_eq_left h
theorem fdiv_lit (a b : Int) (h : 0 ≤ b) : a.fdiv b = a / b:=Int.fdiv_eq_ediv_of_nonneg a h
theorem shr_lit (n : Nat) : ((2 : Int) ^ n) = ((2 ^ n : Nat) : Int):=by simp
@[congr] theorem ork_congr {x y : Option D} (h : x = y) (K : D → Prop) (F : Prop) : ork x K F = ork y K F:=by rw [h]
theorem gd_tt (o : Oper) (K : St → Prop) (s : St) (B : Prop) : gd (.bool true) true (AXu E o K s) B = AX E o K s:=by simp [gd,AXu]
theorem gd_ff (o : Oper) (K : St → Prop) (s : St) (B : Prop) : gd (.bool false) false (AXu E o K s) B = AX E o K s:=by simp [gd,AXu]
theorem gd_tf (A : Prop) (K : St → Prop) (s : St) : gd (.bool true) false A (Ku K s) = K s:=by simp [gd,Ku]
theorem gd_ft (A : Prop) (K : St → Prop) (s : St) : gd (.bool false) true A (Ku K s) = K s:=by simp [gd,Ku]
theorem gd_tup (ds : List D) (want : Bool) (A : Prop) (K : St → Prop) (s : St) : gd (.tup ds) want A (Ku K s) = K s:=by simp [gd,Ku]
@[congr] theorem gd_congr {x y : D} (h : x = y) (w : Bool) (A B : Prop) : gd x w A B = gd y w A B:=by rw [h]
theorem cnd_t (c : Code) (Q : Exit → St → Prop) (s : St) (B : Prop) : cnd (.bool true) (AWu E c Q s) B = AW E c Q s:=by simp [cnd,AWu]
theorem cnd_f (c : Code) (Q : Exit → St → Prop) (s : St) (A : Prop) : cnd (.bool false) A (AWu E c Q s) = AW E c Q s:=by simp [cnd,AWu]
@[congr] theorem cnd_congr {x y : D} (h : x = y) (A B : Prop) : cnd x A B = cnd y A B:=by rw [h]
@[congr] theorem AL_congr {F : (Exit → St → Prop) → St → Prop} {Q : Exit → St → Prop} {s s' : St} (h : s = s') : AL F Q s = AL F Q s':=by rw [h]
@[congr] theorem CallX_congr {g : FuncId} {ds ds' : List D} {K : St → Prop} {s s' : St} {dst : Option Nat} (h : ds = ds') (h'' : s = s') : CallX E g ds K s dst = CallX E g ds' K s' dst:=by rw [h,h'']
@[congr] theorem thn_congr (K : St → Prop) (Q : Exit → St → Prop) {e e' : Exit} {s s' : St} (he : e = e') (h : s = s') : thn K Q e s = thn K Q e' s':=by rw [he,h]
@[congr] theorem AR_congr (all : Array Oper) (os : List Oper) (K : St → Prop) {s s' : St} (h : s = s') : AR E all os K s = AR E all os K s':=by rw [h]
@[congr] theorem AW_congr (c : Code) (Q : Exit → St → Prop) {s s' : St} (h : s = s') : AW E c Q s = AW E c Q s':=by rw [h]
def Nxt {α : Type} (P : α → Prop) (μ : α → Nat) (L : α → List (Nat × D)) (H : α → Hp) (x : α) (s : St) : Prop:=
  ∃ x',P x' ∧ μ x' < μ x ∧ EnvLe (kp (H x')) s.h s.e (L x') ∧ HLe (kp (H x')) s.h (H x')
@[congr] theorem Nxt_congr {α : Type} (P : α → Prop) (μ : α → Nat) (L : α → List (Nat × D)) (H : α → Hp) (x : α) {s s' : St} (h : s = s') : Nxt P μ L H x s = Nxt P μ L H x s':=by rw [h]
theorem AL.step {F : (Exit → St → Prop) → St → Prop} {Q : Exit → St → Prop} {s : St} (h : F (thn (AL F Q) Q) s) : AL F Q s:=.unroll _ s h fun _ h => h
theorem AL.of {α : Type} (P : α → Prop) (μ : α → Nat) (L : α → List (Nat × D)) (H : α → Hp) (x : α) {F : (Exit → St → Prop) → St → Prop} {Q : Exit → St → Prop} {e : Nat → D} {h : Hp} {nx : Nat} (hx : P x) (hL : EnvLe (kp (H x)) h e (L x)) (hH : HLe (kp (H x)) h (H x))
    (hm : ∀ x,P x → mx (H x) ≤ nx) (round : ∀ x,P x → F (thn (Nxt P μ L H x) Q) ⟨look .unk (L x),H x,nx⟩) : AL F Q ⟨e,h,nx⟩:=by
  refine AL.inv (fun n s => ∃ x,P x ∧ μ x = n ∧ s = ⟨look .unk (L x),H x,nx⟩) (μ x) _ _ (Wk.gen (L x) (H x) nx (Nat.le_refl _) (hm x hx) hL hH) ⟨x,hx,rfl,rfl⟩ ?_
  rintro n s ⟨x,hx,rfl,rfl⟩
  refine ⟨Nxt P μ L H x, ?_,round x hx⟩
  rintro ⟨e',h',nx'⟩ ⟨x',h1,h2,h3,h4⟩
  exact ⟨μ x',h2,_,Wk.gen (L x') (H x') nx (Nat.le_refl _) (hm x' h1) h3 h4,x',h1,rfl,rfl⟩
theorem AW_rf (g : Operand) (p q : Nat) (a b : Code) (Q : Exit → St → Prop) (s : St) : AW E (.rangeFunc g ⟨[p,q]⟩ a b) Q s = AB E g (AW E a) (AW E b) Q p q s:=propext Iff.rfl
theorem rnd_normal (n0 : Nat) (I : Nat → St → Prop) (Q : Exit → St → Prop) (t : St) (k : Nat) (s : St) : rnd n0 I Q t k .normal s = BGo n0 I k t s:=propext Iff.rfl
theorem rnd_ret (n0 : Nat) (I : Nat → St → Prop) (Q : Exit → St → Prop) (t : St) (k : Nat) (s : St) : rnd n0 I Q t k .ret s = (Onw t.h t.nx s.h s.nx ∧ Q .ret ⟨t.e,s.h,s.nx⟩):=propext Iff.rfl
theorem bmid_eq (n0 : Nat) (I : Nat → St → Prop) (Q : Exit → St → Prop) (W : (Exit → St → Prop) → St → Prop) (t : St) (k : Nat) (s1 : St) : bmid n0 I Q W t k s1 = (noFz s1.h = true ∧ Onw t.h t.nx s1.h s1.nx ∧ W (rnd n0 I Q ⟨t.e,s1.h,s1.nx⟩ k) s1):=propext Iff.rfl
def BI {α : Type} (P : α → Prop) (μ : α → Nat) (L : α → List (Nat × D)) (H : α → Hp) (nx : Nat) (k : Nat) (s : St) : Prop:=∃ x',P x' ∧ μ x' = k ∧ s = ⟨look .unk (L x'),H x',nx⟩
theorem BGo.of {α : Type} {P : α → Prop} {μ : α → Nat} {L : α → List (Nat × D)} {H : α → Hp} {nx : Nat} (x : α) {k : Nat} {te : Nat → D} {th : Hp} {tn : Nat} {e : Nat → D} {h : Hp} {n : Nat} (ho : Onw th tn h n) (hP : P x) (hμ : μ x = k) (hm : mx (H x) ≤ nx) (hL : EnvLe (kp (H x)) h te (L x)) (hH : HLe (kp (H x)) h (H x)) :
    BGo nx (BI P μ L H nx) k ⟨te,th,tn⟩ ⟨e,h,n⟩:=⟨ho,_,Wk.gen (L x) (H x) nx (Nat.le_refl _) hm hL hH,x,hP,hμ,rfl⟩
theorem AB.of {α : Type} (f bx : Nat) (P : α → Prop) (μ : α → Nat) (L : α → List (Nat × D)) (H : α → Hp) (x : α) {g : Operand} {A W : (Exit → St → Prop) → St → Prop} {Q : Exit → St → Prop} {p q : Nat} {e : Nat → D} {h : Hp} {nx : Nat}
    (hBW : BWC E.P f) (hx : P x) (hL : EnvLe (kp (H x)) h e (L x)) (hH : HLe (kp (H x)) h (H x)) (hg : ev E ⟨look .unk (L x),H x,nx⟩ g = .fn f [.ad bx 0])
    {y : D} (hb : lookB (H x) bx = some (.var false 1 y)) (hs : slen (H x) y = some (μ x)) (hn : μ x ≤ 9223372036854775807)
    (hfr : ∀ x',P x' → Frs (H x) nx (H x') nx ∧ noFz (H x') = true ∧ mx (H x') ≤ nx)
    (done : ∀ x',P x' → μ x' = 0 → Q .normal ⟨look .unk (L x'),H x',nx⟩)
    (round : ∀ x' k,P x' → k < μ x → μ x' = k + 1 → ∃ y d,lookB (H x') bx = some (.var false 1 y) ∧ elt (H x') y k = some d ∧
      A (thn (bmid nx (BI P μ L H nx) Q W ⟨look .unk (L x'),H x',nx⟩ k) noQ) ⟨upd (upd (look .unk (L x')) p (.int .i64 k)) q d,H x',nx⟩) : AB E g A W Q p q ⟨e,h,nx⟩:=by
  refine ⟨_,Wk.gen (L x) (H x) nx (Nat.le_refl _) (hfr x hx).2.2 hL hH,(hfr x hx).2.1,f,bx,hg,hBW,y,μ x,hb,hs,hn,BI P μ L H nx,⟨x,hx,rfl,rfl⟩, ?_, ?_⟩
  · rintro t ⟨x',h1,h2,rfl⟩
    exact done x' h1 h2
  · rintro k t ⟨x',h1,h2,rfl⟩
    exact ⟨(hfr x' h1).1,(hfr x' h1).2.1,fun k' hk' e => round x' k' h1 hk' (h2.trans e)⟩
def KV (K : D → St → Prop) (s : St) (b : Nat) (ag : Bool) (sz ty : Nat) (d' : D) : Prop:=K (.tup []) ⟨s.e,up s.h b (.var ag sz d' ty),s.nx⟩
def KR (K : D → St → Prop) (s : St) (b ver : Nat) (ag : Bool) (sz n : Nat) (f : Nat → D) (i ty : Nat) (d' : D) : Prop:=K (.tup []) ⟨s.e,up s.h b (.row false ver ag sz n (fun j => if j = i then d' else f j) ty),s.nx⟩
def KE (K : D → St → Prop) (s : St) (b : Bool) : Prop:=K (.bool b) s
theorem KV_eq (K : D → St → Prop) (s : St) (b : Nat) (ag : Bool) (sz ty : Nat) (d' : D) : KV K s b ag sz ty d' = K (.tup []) ⟨s.e,up s.h b (.var ag sz d' ty),s.nx⟩:=propext Iff.rfl
theorem KR_eq (K : D → St → Prop) (s : St) (b ver : Nat) (ag : Bool) (sz n : Nat) (f : Nat → D) (i ty : Nat) (d' : D) : KR K s b ver ag sz n f i ty d' = K (.tup []) ⟨s.e,up s.h b (.row false ver ag sz n (fun j => if j = i then d' else f j) ty),s.nx⟩:=propext Iff.rfl
theorem KE_eq (K : D → St → Prop) (s : St) (b : Bool) : KE K s b = K (.bool b) s:=propext Iff.rfl
theorem ex_ork (x : Option D) (K : D → Prop) : (∃ d,x = some d ∧ K d) = ork x K False:=propext (by cases x <;> simp [ork])
theorem ef_box (s : St) (t : Nat) (x : Operand) (K : D → St → Prop) : ef E s (.box t x) K = ((E.tt t).k ≠ .bad ∧ chk s.h (E.tt t).ag (E.tt t).sz (ev E s x) = true ∧ K (.ad s.nx 0) ⟨s.e,(s.nx, .var (E.tt t).ag (E.tt t).sz (ev E s x) (tyOf (E.tt t).trk t)) :: s.h,s.nx + 1⟩):=propext Iff.rfl
theorem ef_alloc (s : St) (t : Nat) (K : D → St → Prop) : ef E s (.alloc t) K = ((E.tt t).hz = true ∧ chk s.h (E.tt t).ag (E.tt t).sz (E.tt t).zero = true ∧ K (.ad s.nx 0) ⟨s.e,(s.nx, .var (E.tt t).ag (E.tt t).sz (E.tt t).zero (tyOf (E.tt t).trk t)) :: s.h,s.nx + 1⟩):=propext Iff.rfl
theorem ef_store (s : St) (t : Nat) (a x : Operand) (K : D → St → Prop) : ef E s (.store t a x) K = ((E.tt t).k ≠ .bad ∧ chk s.h (E.tt t).ag (E.tt t).sz (ev E s x) = true ∧ match ev E s a with
    | .ad b off => match lookB s.h b with
      | some (.var ag sz d ty) => ork (wr ag sz d off (E.tt t).ag (E.tt t).sz (ev E s x)) (KV K s b ag sz ty) False
      | _ => False
    | .el b ver i fo => match lookB s.h b with
      | some (.row false ver' ag sz n f ty) => ver = ver' ∧ cl (ev E s x) = true ∧ ork (wr ag sz (f i) fo (E.tt t).ag (E.tt t).sz (ev E s x)) (KR K s b ver ag sz n f i ty) False
      | _ => False
    | _ => False):=by
  simp only [ef]
  congr 2
  cases ev E s a <;> try rfl
  case ad b off =>
    simp only
    cases lookB s.h b with
    | none => rfl
    | some y => cases y <;> first | rfl | (simp only [← ex_ork];rfl)
  case el b ver i fo =>
    simp only
    cases lookB s.h b with
    | none => rfl
    | some y =>
      cases y with
      | var => rfl
      | row fz ver' ag sz n f => cases fz <;> first | rfl | (simp only [← ex_ork];rfl)
theorem ef_make (s : St) (t : Nat) (l c : Operand) (K : D → St → Prop) : ef E s (.makeSlice t l c) K = (match (E.tt t).k,ev E s l,ev E s c with
    | .slc e, .int _ n, .int _ n' => (E.tt e).hz = true ∧ (E.tt e).k ≠ .bad ∧ chk [] (E.tt e).ag (E.tt e).sz (E.tt e).zero = true ∧ (E.tt e).sz ≠ 0 ∧ n = n' ∧ 0 ≤ n ∧ n ≤ 9223372036854775807 ∧ n * (E.tt e).bytes ≤ 281474976710656 ∧
        K (.sl s.nx 0 0 n.toNat) ⟨s.e,(s.nx, .row false 0 (E.tt e).ag (E.tt e).sz n.toNat fun _ => (E.tt e).zero) :: s.h,s.nx + 1⟩
    | _,_,_ => False):=propext Iff.rfl
theorem ef_bslice (s : St) (t n : Nat) (ps : List (Nat × Operand)) (K : D → St → Prop) : ef E s (.buildSlice t n ⟨ps⟩) K = (match (E.tt t).k with
    | .slc e => (E.tt e).k ≠ .bad ∧ (E.tt e).hz = true ∧ chk [] (E.tt e).ag (E.tt e).sz (E.tt e).zero = true ∧ (E.tt e).sz ≠ 0 ∧ n * (E.tt e).sz ≤ 16777216 ∧ ps.map (·.1) = List.range n ∧ (ps.all fun p => chk s.h (E.tt e).ag (E.tt e).sz (ev E s p.2) && cl (ev E s p.2)) = true ∧
        K (.sl s.nx 0 0 n) ⟨s.e,(s.nx, .row false 0 (E.tt e).ag (E.tt e).sz n fun i => (ps.map fun p => ev E s p.2).getD i .unk) :: s.h,s.nx + 1⟩
    | _ => False):=propext Iff.rfl
theorem ef_append (s : St) (x y : Operand) (t u : Nat) (K : D → St → Prop) : ef E s (.call { callee:=.builtin .append,args:=⟨[x,y]⟩,argTypes:=⟨[t,u]⟩ }) K = (match (E.tt t).k,(E.tt u).k,srcOf s.h (ev E s y) with
    | .slc e,uk,some (m,g,k) => (uk = .slc e ∨ uk = .string) ∧ (E.tt e).k ≠ .bad ∧ (E.tt e).hz = true ∧ chk [] (E.tt e).ag (E.tt e).sz (E.tt e).zero = true ∧ (E.tt e).sz ≠ 0 ∧ (k = none ∨ k = some ((E.tt e).ag,(E.tt e).sz)) ∧ match ev E s x with
      | .nils => m ≤ 9223372036854775807 ∧ m * (E.tt e).bytes ≤ 140737488355328 ∧ K (.sl s.nx 0 0 m) ⟨s.e,(s.nx, .row false 0 (E.tt e).ag (E.tt e).sz m g (rtyOf uk e)) :: s.h,s.nx + 1⟩
      | .sl b ver 0 n => match lookB s.h b with
        | some (.row false ver' ag sz _ f ty) => ver = ver' ∧ ag = (E.tt e).ag ∧ sz = (E.tt e).sz ∧ n + m ≤ 9223372036854775807 ∧ (n + m) * (E.tt e).bytes ≤ 140737488355328 ∧
            K (.sl b (ver + 1) 0 (n + m)) ⟨s.e,up s.h b (.row false (ver + 1) ag sz (n + m) (fun j => if j < n then f j else g (j - n)) (kTy ty e)),s.nx⟩
        | _ => False
      | _ => False
    | _,_,_ => False):=propext Iff.rfl
theorem ef_eql (s : St) (t yt : Nat) (x y : Operand) (K : D → St → Prop) : ef E s (.binOp .eql t x y yt) K = (match (E.tt t).k,ev E s x,ev E s y with
    | .slc _, .nils, .nils => K (.bool true) s
    | .slc _, .ro _ _ n _, .nils => ∀ b : Bool,(b = true → n = 0) → KE K s b
    | _,_,_ => False):=propext Iff.rfl
theorem asAgg_agg (cs : List D) : asAgg (.agg cs) = some cs:=Eq.trans rfl rfl
section
variable (h : Hp)
theorem one_int (k : IntKind) (n : Int) : one h (.int k n) = true:=Eq.trans rfl rfl
theorem one_bool (b : Bool) : one h (.bool b) = true:=Eq.trans rfl rfl
theorem one_str (s : List UInt8) : one h (.str s) = true:=Eq.trans rfl rfl
theorem one_nilp : one h .nilp = true:=Eq.trans rfl rfl
theorem one_nils : one h .nils = true:=Eq.trans rfl rfl
theorem one_ro (ag : Bool) (sz n : Nat) (f : Nat → D) : one h (.ro ag sz n f) = true:=Eq.trans rfl rfl
theorem one_ad (b o : Nat) : one h (.ad b o) = true:=Eq.trans rfl rfl
theorem one_vs (b o e n : Nat) : one h (.vs b o e n) = true:=Eq.trans rfl rfl
theorem one_sl (b v o n : Nat) : one h (.sl b v o n) = cur h b v:=Eq.trans rfl rfl
end
theorem ite_someD (c : Prop) [Decidable c] (x : D) (h : c) : (if c then some x else none) = some x:=by simp [h]
theorem LeV_self (d : D) : LeV d d = True:=eq_true (LeV.refl d)
theorem Le_self (d : D) : Le d d = True:=eq_true (Le.refl d)
theorem LesV_self (d : List D) : LesV d d = True:=eq_true (LesV.refl d)
theorem wrap_i64 {n : Int} (h : -9223372036854775808 ≤ n ∧ n < 9223372036854775808) : IntKind.i64.wrap n = n:=by
  simp only [IntKind.wrap,IntKind.bits,IntKind.signed]
  simp
  omega
theorem wrap_u64 {n : Int} (h : 0 ≤ n ∧ n < 18446744073709551616) : IntKind.u64.wrap n = n:=by
  simp only [IntKind.wrap,IntKind.bits,IntKind.signed]
  simp
  omega
theorem wrap_u32 {n : Int} (h : 0 ≤ n ∧ n < 4294967296) : IntKind.u32.wrap n = n:=by
  simp only [IntKind.wrap,IntKind.bits,IntKind.signed]
  simp
  omega
theorem wrap_u8 {n : Int} (h : 0 ≤ n ∧ n < 256) : IntKind.u8.wrap n = n:=by
  simp only [IntKind.wrap,IntKind.bits,IntKind.signed]
  simp
  omega
theorem wrap_u32' (n : Int) : IntKind.u32.wrap n = n % 4294967296:=by
  simp only [IntKind.wrap,IntKind.bits,IntKind.signed]
  simp
theorem wrap_u8' (n : Int) : IntKind.u8.wrap n = n % 256:=by
  simp only [IntKind.wrap,IntKind.bits,IntKind.signed]
  simp
end
end Go.Proofs.YtakaojkfipnfcaaGreatDoor.Lv
