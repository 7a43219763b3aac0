/- The abstract machine: rows that are frozen as soon as they are made, so that they may lie in other rows. The first call of law 19. Readers: byte, count, rat, pair. Readers: boxes. Readers: polynomials; what claim.GetBox and claim.GetPoly tell. GetBox, GetPoly: the program's; the document's pairs and boxes. The document's GetPoly. How great terms are; are they the same? Laws ClaimBoxes, ClaimPolys. Arguments: terms, limits. The document's Open. -/
import Derived.Test.YtakaojkfipnfcaaGreatDoorG23
import Derived.Test.YtakaojkfipnfcaaGreatDoorG25
import Derived.Test.YtakaojkfipnfcaaGreatDoorG21
import Derived.Test.YtakaojkfipnfcaaGreatDoorG22
import Derived.Test.YtakaojkfipnfcaaGreatDoorG13
import Derived.Test.YtakaojkfipnfcaaGreatDoorG20
import Derived.Test.YtakaojkfipnfcaaGreatDoorG18
import Derived.Test.YtakaojkfipnfcaaGreatDoorG19
set_option linter.unusedVariables false
set_option linter.unusedSimpArgs false
set_option maxRecDepth 100000
set_option maxHeartbeats 4000000
namespace Go.Proofs.YtakaojkfipnfcaaGreatDoor.Lv
open Go Go.RowKit
def isFz : Op → Bool
  | .buildSlice .. => true
  | .call { callee:=.builtin .append, .. } => true
  | _ => false
def fzS (t : Nat) (d : D) (s : St) : St:=match d with
  | .sl i 0 off n => ⟨upd s.e t (imp nof s.h (.sl i 0 off n)),Lv.frz [i] s.h,s.nx⟩
  | _ => s
def fzT (b : Bool) (dst : Option Nat) (s : St) : St:=match b,dst with
  | true,some t => fzS t (s.e t) s
  | _,_ => s
section
variable {E : Ctx} {B : Base} {s : St} {φ : Ph} {S : Nat → Prop} {a : Act} {w : World}
theorem fzS_rel (hr : Rel B s φ S a w) (t : Nat) : ∃ S',Rel B (fzS t (s.e t) s) φ S' a w:=by
  unfold fzS
  split
  · rename_i i off n hd
    have h1:=hr.frz [i]
    have hv:=hr.env t
    rw [hd] at hv
    have h2:=imp_rep (h2:=Lv.frz [i] s.h) (φ2:=φ) (ρ:=nof) (fs:=[i]) hr.hp (fun b j e => by cases e) _ _ hv (fun b hb => by
      simp only [refs,nof] at hb
      exact hb)
    refine ⟨_,{ h1 with env:=fun t' => ?_ }⟩
    by_cases e : t' = t
    · subst e
      simp only [upd,if_true]
      exact h2
    · simp only [upd,if_neg e]
      exact h1.env t'
  · exact ⟨S,hr⟩
theorem fzT_rel (hr : Rel B s φ S a w) (b : Bool) (dst : Option Nat) : ∃ S',Rel B (fzT b dst s) φ S' a w:=by
  cases b with
  | false => exact ⟨S,hr⟩
  | true => cases dst with
    | none => exact ⟨S,hr⟩
    | some t => exact fzS_rel hr t
end
def ARz (E : Ctx) (all : Array Oper) : List Oper → (St → Prop) → St → Prop
  | [],K,s => K s
  | o :: os,K,s => AT E all o (fun s' => ARz E all os K (fzT (isFz o.op) o.dst s')) s
def AWz (E : Ctx) : Code → (Exit → St → Prop) → St → Prop
  | .skip,Q,s => Q .normal s
  | .region _ ops true,Q,s => AReg E ops true (Q .normal) s
  | .region _ ops false,Q,s => ARz E ops ops.toList (Q .normal) s
  | .seq a b,Q,s => AWz E a (thn (AWz E b Q) Q) s
  | .cond c a b,Q,s => cnd (ev E s c) (AWz E a Q s) (AWz E b Q s)
  | .block id b,Q,s => AWz E b (blk id Q) s
  | .loop b,Q,s => AL (AWz E b) Q s
  | .exit id,Q,s => Q (.exit id) s
  | .ret,Q,s => Q .ret s
  | _,_,_ => False
section
variable {E : Ctx} {B : Base}
theorem ARz_text (hB : BOK E B) {r : Option Nat} {ops : Array Oper} {K : St → Prop} {Q : Exit → Act → World → Prop} (hd : ops.all (dstOk B.N) = true) (hK : ∀ s' φ' S' a' w',Rel B s' φ' S' a' w' → K s' → Q .normal a' w') :
    ∀ (n i : Nat) (s : St) (φ : Ph) (S : Nat → Prop) (a : Act) (w : World),i + n = ops.size → Rel B s φ S a w → ARz E ops (ops.toList.drop i) K s → wpOpsIn (WF r) 0 E.P ops Q (List.range' i n) a w
  | 0,i,s,φ,S,a,w,hn,hr,h => by
    have : ops.toList.drop i = []:=by simp;omega
    rw [this] at h
    exact hK _ _ _ _ _ hr h
  | n + 1,i,s,φ,S,a,w,hn,hr,h => by
    have hlt : i < ops.toList.length:=by simp;omega
    rw [List.drop_eq_getElem_cons hlt] at h
    simp only [ARz] at h
    rw [List.range'_succ,wpOpsIn_cons]
    refine AT_op hB hr (o:=ops.toList[i]) (by simp [Array.getElem?_eq_getElem (by simpa using hlt)]) ?_ (fun s' φ' S' a' w' hr' h' => by
      obtain ⟨S'',hr''⟩:=fzT_rel hr' (isFz ops.toList[i].op) ops.toList[i].dst
      exact ARz_text hB hd hK n (i + 1) _ φ' S'' a' w' (by omega) hr'' h') h
    have:=Array.all_eq_true.1 hd i (by simpa using hlt)
    simpa using this
theorem AWz_sound : ∀ (c : Code) (B : Base) (hB : BOK E B) (r : Option Nat) (hp : (r = none ∧ B.n0 ≤ B.w0.heap.size) ∨ plainC c = true) (Q : Exit → St → Prop) (Q' : Exit → Act → World → Prop) (s : St) (φ : Ph) (S : Nat → Prop) (a : Act) (w : World),codeOk B.N c = true →
    (∀ e s φ S a w,Rel B s φ S a w → Q e s → Q' e a w) → Rel B s φ S a w → AWz E c Q s → c.wpIn (WF r) 0 E.P Q' a w
  | .skip,B,hB,r,hp,Q,Q',s,φ,S,a,w,ho,hQ,hr,h => wpIn_skip (hQ _ _ _ _ _ _ hr h)
  | .region id ops draw,B,hB,r,hp,Q,Q',s,φ,S,a,w,ho,hQ,hr,h => by
    cases draw with
    | true =>
      simp only [codeOk,Bool.and_eq_true] at ho
      exact AReg_sound (K:=Q .normal) hB ho.1 ho.2 (fun s' φ' S' a' w' hr' h' => hQ _ _ _ _ _ _ hr' h') hr h
    | false =>
      simp only [codeOk,Bool.and_eq_true] at ho
      refine wpIn_region ?_
      rw [List.range_eq_range']
      exact ARz_text hB ho.1 (fun s' φ' S' a' w' hr' h' => hQ _ _ _ _ _ _ hr' h') ops.size 0 s φ S a w (by omega) hr (by rw [List.drop_zero];exact h)
  | .seq x y,B,hB,r,hp,Q,Q',s,φ,S,a,w,ho,hQ,hr,h => by
    simp only [codeOk,plainC,Bool.and_eq_true] at ho hp
    refine wpIn_seq (AWz_sound x B hB r (hp.imp_right (·.1)) _ _ s φ S a w ho.1 (fun e s φ S a w hr h => ?_) hr h)
    cases e <;> first | exact AWz_sound y B hB r (hp.imp_right (·.2)) Q Q' s φ S a w ho.2 hQ hr h | exact hQ _ _ _ _ _ _ hr h
  | .cond c x y,B,hB,r,hp,Q,Q',s,φ,S,a,w,ho,hQ,hr,h => by
    simp only [codeOk,plainC,Bool.and_eq_true] at ho hp
    simp only [AWz] at h
    unfold cnd at h
    split at h
    · rename_i b hb
      have hev:=hr.ev (hB.gok hr) c
      rw [hb] at hev
      simp only [RepV,Rep0] at hev
      refine wpIn_cond hev ?_
      cases b
      · exact AWz_sound y B hB r (hp.imp_right (·.2)) Q Q' s φ S a w ho.2 hQ hr (h.2 rfl)
      · exact AWz_sound x B hB r (hp.imp_right (·.1)) Q Q' s φ S a w ho.1 hQ hr (h.1 rfl)
    · exact h.elim
  | .block id b,B,hB,r,hp,Q,Q',s,φ,S,a,w,ho,hQ,hr,h => by
    refine wpIn_block (AWz_sound b B hB r hp _ _ s φ S a w ho (fun e s φ S a w hr h => ?_) hr h)
    cases e with
    | exit i =>
      simp only [blk,Exit.inBlock] at h ⊢
      split at h
      · rename_i e;rw [if_pos e];exact hQ _ _ _ _ _ _ hr h
      · rename_i e;rw [if_neg e];exact hQ _ _ _ _ _ _ hr h
    | _ => exact hQ _ _ _ _ _ _ hr h
  | .loop b,B,hB,r,hp,Q,Q',s,φ,S,a,w,ho,hQ,hr,h => by
    simp only [codeOk] at ho
    simp only [AWz] at h
    have body:=fun Q Q' s φ S a w hQ hr h => AWz_sound b B hB r hp Q Q' s φ S a w ho hQ hr h
    have key : ∀ {s},AL (AWz E b) Q s → ∀ φ S a w,Rel B s φ S a w → Key r E.P b Q' a w:=by
      clear h hr
      intro s h
      induction h with
      | inv I n s s' h0 hI round =>
        intro φ S a w hr
        have hnx:=hr.nx0
        obtain ⟨φ',S',hr'⟩:=h0 _ _ _ _ _ hnx hr
        have again : ∀ n s,I n s → ∀ φ S a w,Rel B s φ S a w → Key r E.P b Q' a w:=by
          intro n
          induction n using Nat.strongRecOn with
          | _ n ih =>
            intro s hI φ S a w hr
            obtain ⟨K,hK,hrd⟩:=round n s hI
            refine Key.step (K:=fun a w => Key r E.P b Q' a w) (body _ _ s φ S a w (fun e s φ S a w hr h => ?_) hr hrd) fun a w h => h
            cases e <;> first | exact hQ _ _ _ _ _ _ hr h | skip
            obtain ⟨m,hm,s'',h1,h2⟩:=hK _ h
            obtain ⟨φ'',S'',hr''⟩:=h1 _ _ _ _ _ hnx hr
            exact ih m hm s'' h2 _ _ _ _ hr''
        exact again n s' hI _ _ _ _ hr'
      | unroll R s h hR ih =>
        intro φ S a w hr
        refine Key.step (K:=fun a w => Key r E.P b Q' a w) (body _ _ s φ S a w (fun e s φ S a w hr h => ?_) hr h) fun a w h => h
        cases e <;> first | exact ih s h _ _ _ _ hr | exact hQ _ _ _ _ _ _ hr h
    intro fb k cs hro _ _
    obtain ⟨e,a',w',hq,harr⟩:=key h φ S a w hr fb k cs hro
    exact ⟨e,a',w',hq, .of_steps (.one (fenced_calm (n:=0) trivial (WF.room _) rfl) stepR_loop) harr⟩
  | .scope ..,_,_,_,_,_,_,_,_,_,_,_,_,_,_,h | .label ..,_,_,_,_,_,_,_,_,_,_,_,_,_,_,h | .goto ..,_,_,_,_,_,_,_,_,_,_,_,_,_,_,h | .refuse ..,_,_,_,_,_,_,_,_,_,_,_,_,_,_,h => by simp only [AWz] at h
  | .exit id,B,hB,r,hp,Q,Q',s,φ,S,a,w,ho,hQ,hr,h => wpIn_exit (hQ _ _ _ _ _ _ hr h)
  | .ret,B,hB,r,hp,Q,Q',s,φ,S,a,w,ho,hQ,hr,h => wpIn_ret (hQ _ _ _ _ _ _ hr h)
  | .rangeFunc ..,_,_,_,_,_,_,_,_,_,_,_,_,_,_,h => by simp only [AWz] at h
end
section
variable {E : Ctx}
theorem CG_introz {f : FuncId} {fn : Func} {body : Code} {rl : List ResultVar} {args : List D} {h0 h' : Hp} {d : D} (hf : E.P.funcs[f]? = some fn) (hb : fn.body = some body) (hn : (fn.name == "runtime.NumGoroutine") = false) (hres : fn.results = ⟨rl⟩)
    (ho : codeOk fn.ntmps body = true) (hl : decide (args.length ≤ fn.ntmps) = true) (hkeys : (h0.all fun p => (lookB h' p.1).isSome) = true) (h : AWz E body (retQ E rl d h') (St.init args h0)) : CG E f args h0 d h':=by
  refine ⟨by simp [fnOk,hf,hb];simpa using hn,fun S w vs φ hS hG hhp hGB hvs => (callsIn_wide (n:=0)).1 (callsIn_of_wp_marks (F:=WF none) hf hb trivial ?_)⟩
  let B : Base:=⟨w,S,GB h0 φ,fn.ntmps,h0,φ,w.heap.size⟩
  have hB : BOK E B:=⟨hG,fun b hb => ⟨hS b hb,fun h => (hGB b h).2 hb⟩⟩
  have hlen:=hvs.length
  have hl' : args.length ≤ fn.ntmps:=by simpa using hl
  have hr : Rel B (St.init args h0) φ S { tmps:=⟨vs⟩ ++ Array.replicate (fn.ntmps - (⟨vs⟩ : Array Value).size) undef,defers:=[] } w:=by
    refine ⟨fun t => ?_, ?_,hhp,fun b x hl => mx_lt hl,hS,fun b x c t hl hp => (hGB c ⟨b,x,t,hl,hp⟩).1,fun b x c t hl hp => .inr ⟨b,x,t,hl,hp⟩,fun b h => h,fun b h _ => .inl h,⟨rfl,rfl,rfl,Nat.le_refl _,fun _ _ _ => rfl⟩,HpOn.refl _ _,Nat.le_refl _,Marked.nil _ _ _ _ _⟩
    · have:=hvs.getD (List.replicate (fn.ntmps - vs.length) undef) t
      have e : ((⟨vs⟩ : Array Value) ++ Array.replicate (fn.ntmps - (⟨vs⟩ : Array Value).size) undef).getD t undef = (vs ++ List.replicate (fn.ntmps - vs.length) undef).getD t undef:=by
        rw [Array.getD_eq_getD_getElem?,List.getD_eq_getElem?_getD]
        congr 1
        rw [← Array.getElem?_toList]
        simp
      rw [e]
      exact this
    · show ((⟨vs⟩ : Array Value) ++ Array.replicate (fn.ntmps - (⟨vs⟩ : Array Value).size) undef).size = fn.ntmps
      simp
      omega
  refine AWz_sound body B hB none (.inl ⟨rfl,Nat.le_refl _⟩) _ _ _ _ _ _ _ ho (fun e s φ1 S1 a w1 hr h => ?_) hr h
  have ret : ∀ a w1,Rel B s φ1 S1 a w1 → ork ((resD E s rl).map fun ds => imp (kp h') s.h (one' ds)) (fun d' => LeV d' d) False ∧ HLe (kp h') s.h h' → ∃ v,(results fn a.tmps).run E.P w1 = .ok v w1 ∧ ∃ v' S' φ',Ending.returned v = .returned v' ∧ RepV h' φ' S' w1 d v' ∧ HpAt h' φ' S' w1 ∧ HpExt h0 φ h' φ' ∧
      (∀ c,GB h' φ' c → c < w1.heap.size ∧ (w.heap.size ≤ c ∨ GB h0 φ c)) ∧ Trod (GB h0 φ) w w1 ∧ (∀ b,S b → S' b) ∧ (∀ b,S' b → b < w1.heap.size) ∧ ∀ b,S' b → b < w.heap.size → S b ∨ GB h0 φ b:=by
    rintro a w1 hr ⟨h,hH⟩
    unfold ork at h
    split at h
    · rename_i d' hd'
      obtain ⟨ds,h1,h2⟩:=Option.map_eq_some_iff.1 hd'
      obtain ⟨vs',h3,h4⟩:=resD_sound hr rl ds h1
      have h5 : ∃ v,(results fn a.tmps).run E.P w1 = .ok v w1 ∧ RepV s.h φ1 S1 w1 (one' ds) v:=by
        rw [results_eq,hres,show (⟨rl⟩ : Array ResultVar) = rl.toArray from rfl,List.mapM_toArray]
        simp only [map_eq_pure_bind,bind_assoc,pure_bind,Sem.run_bind,h3,Result.andThen_ok,Sem.run_pure]
        match ds,h4 with
        | [],h4 =>
          simp only [RepVs] at h4
          subst h4
          exact ⟨_,rfl,by simp [one',RepV,RepVs]⟩
        | [x],h4 =>
          simp only [RepVs] at h4
          obtain ⟨v,vs'',rfl,h6,rfl⟩:=h4
          exact ⟨v,rfl,h6⟩
        | x :: y :: r,h4 =>
          have h4':=h4
          simp only [RepVs] at h4
          obtain ⟨v,vs'',rfl,h6,v2,vs3,rfl,h7,h8⟩:=h4
          refine ⟨.tuple ⟨v :: v2 :: vs3⟩, ?_, ?_⟩
          · rw [dif_neg (by simp)]
          · simp only [one',RepV]
            exact ⟨_,rfl,h4'⟩
      obtain ⟨v,h6,h7⟩:=h5
      let fs:=refs (kp h') (one' ds) ++ h'.flatMap fun p => refB (kp h') (lookB s.h p.1)
      let h2':=kH (kp h') s.h h'
      have hlook : ∀ i,lookB h2' i = if (lookB h' i).isSome then (lookB s.h i).map (impB (kp h') s.h) else none:=kH_look hH
      have hkp : ∀ b i,kp h' b = some i → i = b ∧ (lookB h' b).isSome = true:=fun b i e => by
        unfold kp at e
        split at e
        · rename_i hs;exact ⟨(Option.some.inj e).symm,hs⟩
        · cases e
      have hρ : ∀ b i,kp h' b = some i → ∀ x,lookB s.h b = some x → lookB h2' i = some (impB (kp h') s.h x) ∧ φ1 i = φ1 b:=fun b i e x hx => by
        obtain ⟨rfl,hs⟩:=hkp b i e
        exact ⟨by rw [hlook,if_pos hs,hx];rfl,rfl⟩
      have hback : ∀ i y,lookB h2' i = some y → ∃ b x,kp h' b = some i ∧ lookB s.h b = some x ∧ y = impB (kp h') s.h x:=fun i y e => by
        rw [hlook] at e
        split at e
        · rename_i hs
          obtain ⟨x,hx,rfl⟩:=Option.map_eq_some_iff.1 e
          exact ⟨i,x,by unfold kp;rw [if_pos hs],hx,rfl⟩
        · cases e
      have hfs : ∀ b,b ∈ fs → kp h' b = none:=fun b hb => by
        rcases List.mem_append.1 hb with hb | hb
        · exact (refs_none _).1 _ _ hb
        · obtain ⟨p,hp,hb⟩:=List.mem_flatMap.1 hb
          unfold refB at hb
          split at hb
          · exact (refs_none _).1 _ _ hb
          · cases hb
      have hmem : ∀ (h' : Hp) b,(lookB h' b).isSome = true → ∃ p ∈ h',p.1 = b:=by
        intro h'
        induction h' with
        | nil => intro b hb;cases hb
        | cons p r ih =>
          intro b hb
          obtain ⟨j,z⟩:=p
          simp only [lookB] at hb
          split at hb
          · rename_i e;exact ⟨(j,z),by simp,e.symm⟩
          · obtain ⟨q,hq,e⟩:=ih b hb
            exact ⟨q,by simp [hq],e⟩
      have hrf : ∀ b i ag sz d ty,kp h' b = some i → lookB s.h b = some (.var ag sz d ty) → ∀ b',b' ∈ refs (kp h') d → b' ∈ fs:=fun b i ag sz d ty e hl b' hb' => by
        obtain ⟨rfl,hs⟩:=hkp b i e
        obtain ⟨p,hp,e⟩:=hmem h' i hs
        exact List.mem_append_right _ (List.mem_flatMap.2 ⟨p,hp,by rw [e];simp [refB,hl,hb']⟩)
      have hhp2 : HpAt h2' φ1 (Fz s.h φ1 S1 fs) w1:=imp_hp hr.hp hρ hback hfs hrf
      have hrep:=imp_rep (fs:=fs) hr.hp hρ (one' ds) v h7 fun b hb => List.mem_append_left _ hb
      have hz:=hr.frz fs
      have hB2 : ∀ i y,lookB h' i = some y → ∃ x,lookB s.h i = some x ∧ lookB h2' i = some (impB (kp h') s.h x) ∧ BLe (some (impB (kp h') s.h x)) y:=fun i y e => by
        obtain ⟨x,hx,hle⟩:=hH.look i y e
        exact ⟨x,hx,by rw [hlook,e,hx];rfl,hle⟩
      have hB3 : ∀ i x,lookB h2' i = some x → ∃ y,lookB h' i = some y ∧ BLe (some x) y:=fun i x e => by
        have e':=e
        rw [hlook] at e'
        split at e'
        · rename_i hs
          obtain ⟨y,hy⟩:=Option.isSome_iff_exists.1 hs
          obtain ⟨x',_,e2,hle⟩:=hB2 i y hy
          rw [e] at e2
          cases e2
          exact ⟨y,hy,hle⟩
        · cases e'
      have hx2 : HpExt h2' φ1 h' φ1:=fun b => ⟨fun ag sz d ty e => by
          obtain ⟨y,hy,hle⟩:=hB3 b _ e
          cases y with
          | var ag' sz' d' ty' => obtain ⟨rfl,rfl,rfl,_⟩:=hle;exact ⟨⟨_,hy⟩,rfl⟩
          | row => exact hle.elim,
        fun fz ver ag sz m f ty e => by
          obtain ⟨y,hy,hle⟩:=hB3 b _ e
          cases y with
          | var => exact hle.elim
          | row fz' ver' ag' sz' m' f' tyr' => obtain ⟨rfl,rfl,rfl,rfl,rfl,_⟩:=hle;exact ⟨_,_,_,_,_,hy,Nat.le_refl _,fun _ => ⟨Nat.le_refl _,rfl⟩⟩⟩
      have hk : Kept (Fz s.h φ1 S1 fs) w1 w1:=fun _ _ => rfl
      refine ⟨v,h6,v,Fz s.h φ1 S1 fs,φ1,rfl,h _ _ _ _ _ (h2 ▸ RepV.mono hx2 hk (fun _ h => h) _ _ hrep),⟨fun b y e => ?_,fun b b' y y' c t t' l l' p p' => ?_⟩,fun b => ⟨fun ag sz d ty e => ?_,fun fz ver ag sz m f ty e => ?_⟩,fun c hc => ?_,hr.below,hz.s0,hz.slt,hz.s1⟩
      · obtain ⟨x,hx,e2,hle⟩:=hB2 b y e
        have hblk:=hhp2.blk b _ e2
        revert hblk hle
        generalize impB (kp h') s.h x = z
        intro hle hblk
        cases z with
        | var ag sz d0 ty =>
          cases y with
          | row => exact hle.elim
          | var ag' sz' d' ty' =>
            obtain ⟨rfl,rfl,rfl,hle⟩:=hle
            obtain ⟨c,t,g1,g2,x,vs,e,lo,hi,g3,g4,g5,g6,g7⟩:=hblk
            exact ⟨c,t,g1,g2,x,vs,e,lo,hi,g3,g4,g5,g6,hle _ _ _ _ _ (RepV.mono hx2 hk (fun _ h => h) _ _ g7.1),g7.2⟩
        | row fz ver ag sz n f tyr =>
          cases y with
          | var => exact hle.elim
          | row fz' ver' ag' sz' n' f' tyr' =>
            obtain ⟨rfl,rfl,rfl,rfl,rfl,htl,hle⟩:=hle
            refine ⟨hblk.1,fun c tot e => ?_⟩
            obtain ⟨g1,g2,g3,g4,vs,ty,lo,hi,g5,g6,g7,g8,g9⟩:=hblk.2 c tot e
            refine ⟨g1,g2,g3,g4,vs,ty,lo,hi,g5,g6,g7,fun i hi => ?_,htl.of g9⟩
            obtain ⟨x,k1,k2⟩:=g8 i hi
            exact ⟨x,k1,hle i hi _ _ _ k2⟩
      · obtain ⟨x,_,e2,_⟩:=hB2 b y l
        obtain ⟨x',_,e2',_⟩:=hB2 b' y' l'
        exact hhp2.inj b b' _ _ c t t' e2 e2' p p'
      · have hk2:=List.all_eq_true.1 hkeys
        obtain ⟨p,hp,e3⟩:=hmem h0 b (by rw [e];rfl)
        have:=hk2 p hp
        rw [e3] at this
        obtain ⟨y,hy⟩:=Option.isSome_iff_exists.1 this
        obtain ⟨x,hx,_,hle⟩:=hB2 b y hy
        obtain ⟨⟨d1,e4⟩,e5⟩:=(hr.ext b (by rw [hx];rfl)).1 ag sz d ty e
        rw [hx] at e4
        cases e4
        cases y with
        | row => exact hle.elim
        | var ag' sz' d' ty' => obtain ⟨rfl,rfl,rfl,_⟩:=hle;exact ⟨⟨_,hy⟩,e5⟩
      · have hk2:=List.all_eq_true.1 hkeys
        obtain ⟨p,hp,e3⟩:=hmem h0 b (by rw [e];rfl)
        have:=hk2 p hp
        rw [e3] at this
        obtain ⟨y,hy⟩:=Option.isSome_iff_exists.1 this
        obtain ⟨x,hx,_,hle⟩:=hB2 b y hy
        obtain ⟨fz2,ver2,m2,f2,ty2,e4,e5,e6⟩:=(hr.ext b (by rw [hx];rfl)).2 _ _ _ _ _ _ _ e
        rw [hx] at e4
        cases e4
        cases y with
        | var => exact hle.elim
        | row fz' ver' ag' sz' n' f' tyr' => obtain ⟨rfl,rfl,rfl,rfl,rfl,_⟩:=hle;exact ⟨_,_,_,_,_,hy,e5,e6⟩
      · obtain ⟨b,y,t,e,hp⟩:=hc
        obtain ⟨x,hx,_,_⟩:=hB2 b y e
        exact ⟨hr.plt b x c t hx hp,hr.old b x c t hx hp⟩
    · exact h.elim
  have fin : ork ((resD E s rl).map fun ds => imp (kp h') s.h (one' ds)) (fun d' => LeV d' d) False ∧ HLe (kp h') s.h h' → LeavesInM (WF none) 0 E.P fn a.tmps (fun e w1 => ∃ v S' φ',e = .returned v ∧ RepV h' φ' S' w1 d v ∧ HpAt h' φ' S' w1 ∧ HpExt h0 φ h' φ' ∧ (∀ c,GB h' φ' c → c < w1.heap.size ∧ (w.heap.size ≤ c ∨ GB h0 φ c)) ∧ Trod (GB h0 φ) w w1 ∧
      (∀ b,S b → S' b) ∧ (∀ b,S' b → b < w1.heap.size) ∧ ∀ b,S' b → b < w.heap.size → S b ∨ GB h0 φ b) a.defers .returning w1:=fun h => by
    obtain ⟨Ds,e,_⟩:=hr.def0
    rw [show a.defers = Ds.map mark from e]
    exact leave (Nat.le_refl _) Ds a w1 e hr fun a' w' _ hr' => ret a' w' hr' h
  cases e <;> first | exact fin h | exact (show False from h).elim
def AWzu (E : Ctx) (c : Code) (Q : Exit → St → Prop) (s : St) : Prop:=AWz E c Q s
theorem AWz_skip (Q : Exit → St → Prop) (s : St) : AWz E .skip Q s = Q .normal s:=propext Iff.rfl
theorem AWz_seq (a b : Code) (Q : Exit → St → Prop) (s : St) : AWz E (.seq a b) Q s = AWz E a (thn (AWz E b Q) Q) s:=propext Iff.rfl
theorem AWz_region (id : Nat) (ops : Array Oper) (Q : Exit → St → Prop) (s : St) : AWz E (.region id ops false) Q s = ARz E ops ops.toList (Q .normal) s:=propext Iff.rfl
theorem AWz_drawn (id : Nat) (ops : Array Oper) (Q : Exit → St → Prop) (s : St) : AWz E (.region id ops true) Q s = AReg E ops true (Q .normal) s:=propext Iff.rfl
theorem AWz_cond (c : Operand) (a b : Code) (Q : Exit → St → Prop) (s : St) : AWz E (.cond c a b) Q s = cnd (ev E s c) (AWzu E a Q s) (AWzu E b Q s):=propext Iff.rfl
theorem AWz_block (id : Nat) (b : Code) (Q : Exit → St → Prop) (s : St) : AWz E (.block id b) Q s = AWz E b (blk id Q) s:=propext Iff.rfl
theorem AWz_loop (b : Code) (Q : Exit → St → Prop) (s : St) : AWz E (.loop b) Q s = AL (AWz E b) Q s:=propext Iff.rfl
theorem AWz_exit (id : Nat) (Q : Exit → St → Prop) (s : St) : AWz E (.exit id) Q s = Q (.exit id) s:=propext Iff.rfl
theorem AWz_ret (Q : Exit → St → Prop) (s : St) : AWz E .ret Q s = Q .ret s:=propext Iff.rfl
theorem ARz_nil (all : Array Oper) (K : St → Prop) (s : St) : ARz E all [] K s = K s:=propext Iff.rfl
theorem ARz_cons (all : Array Oper) (o : Oper) (os : List Oper) (K : St → Prop) (s : St) : ARz E all (o :: os) K s = AT E all o (fun s' => ARz E all os K (fzT (isFz o.op) o.dst s')) s:=propext Iff.rfl
theorem cndz_t (c : Code) (Q : Exit → St → Prop) (s : St) (B : Prop) : cnd (.bool true) (AWzu E c Q s) B = AWz E c Q s:=by simp [cnd,AWzu]
theorem cndz_f (c : Code) (Q : Exit → St → Prop) (s : St) (A : Prop) : cnd (.bool false) A (AWzu E c Q s) = AWz E c Q s:=by simp [cnd,AWzu]
@[congr] theorem AWz_congr (c : Code) (Q : Exit → St → Prop) {s s' : St} (h : s = s') : AWz E c Q s = AWz E c Q s':=by rw [h]
theorem fzT_f (dst : Option Nat) (s : St) : fzT false dst s = s:=Eq.trans rfl rfl
theorem fzT_n (b : Bool) (s : St) : fzT b none s = s:=by cases b <;> rfl
theorem fzT_t (t : Nat) (e : Nat → D) (h : Hp) (nx : Nat) : fzT true (some t) ⟨e,h,nx⟩ = fzS t (e t) ⟨e,h,nx⟩:=Eq.trans rfl rfl
theorem fzS_0 (t i off n : Nat) (e : Nat → D) (h : Hp) (nx : Nat) : fzS t (.sl i 0 off n) ⟨e,h,nx⟩ = ⟨upd e t (imp nof h (.sl i 0 off n)),Lv.frz [i] h,nx⟩:=Eq.trans rfl rfl
end
attribute [go_sem] AWz_skip AWz_seq AWz_region AWz_drawn AWz_cond AWz_block AWz_loop AWz_exit AWz_ret ARz_nil ARz_cons cndz_t cndz_f fzT_f fzT_n fzT_t fzS_0 isFz
def lineC : Cl:=⟨1,[[((1,0,0),[49])]],[([49],[50])],([],[]),[],[]⟩
def zeroC : Cl:=⟨0,[],[],([],[]),[],[]⟩
theorem line_ok : lineC.ok where
  k:=by show _ ∧ _;decide
  F:=by
    refine ⟨by decide,fun t ht => ?_⟩
    obtain rfl:=List.mem_singleton.1 ht
    refine ⟨by decide,fun p hp => ?_⟩
    obtain rfl:=List.mem_singleton.1 hp
    show 1 < _
    omega
  B:=by
    refine ⟨by decide,fun p hp => ?_⟩
    obtain rfl:=List.mem_singleton.1 hp
    exact ⟨by show 1 < _;omega,by show 1 < _;omega⟩
  R:=⟨by show 0 < _;omega,by show 0 < _;omega⟩
  T:=⟨by decide,fun t ht => nomatch ht⟩
  E:=⟨by decide,fun t ht => nomatch ht⟩
theorem zero_ok : zeroC.ok where
  k:=by show _ ∧ _;decide
  F:=⟨by decide,fun t ht => nomatch ht⟩
  B:=⟨by decide,fun t ht => nomatch ht⟩
  R:=⟨by show 0 < _;omega,by show 0 < _;omega⟩
  T:=⟨by decide,fun t ht => nomatch ht⟩
  E:=⟨by decide,fun t ht => nomatch ht⟩
theorem box12 : boxR [([49],[50])] = ([(((1 : Int) : Rat),((2 : Int) : Rat))],0):=by
  have e1:=side_int rp_one rp_two (by decide)
  have e3 : sidesR [([49],[50])] = ([(((1 : Int) : Rat),((2 : Int) : Rat))],0):=by
    unfold sidesR
    simp [List.find?,e1]
  unfold boxR
  rw [if_neg (by decide),e3]
theorem line_opn : opnB lineC = true:=by
  have hb : boxR lineC.B = ([(((1 : Int) : Rat),((2 : Int) : Rat))],0):=box12
  have h1 : okPl [((1,0,0),[49])] = true:=by
    refine okPl_of fun i hi => ?_
    obtain rfl : i = 0:=by simp at hi;exact hi
    unfold okT
    have e : ([((1,0,0),[49])] : List Tm).getD 0 tm0 = ((1,0,0),[49]):=rfl
    rw [e,rp_one]
    decide
  have h2 : pV [((1,0,0),[49])] = [((1,0,0),((1 : Int) : Rat))]:=by
    unfold pV
    simp [rp_one]
  have h3 : okF 1 [((1,0,0),[49])] = true:=by
    unfold okF plOk
    rw [h1,h2]
    decide
  unfold opnB
  rw [hb]
  have h4 : okFs 1 lineC.F = true:=by
    unfold okFs lineC
    simp [h3]
  have h5 : rOK lineC = true:=by unfold rOK lineC;rfl
  have h6 : tOK 1 lineC = true:=by unfold tOK lineC;rfl
  have h7 : manyB lineC.k 1 lineC.F.length = true:=by decide
  simp only [List.length_singleton]
  rw [h4,h5,h6,h7]
  decide
theorem zero_opn : opnB zeroC = false:=by
  have hb : boxR zeroC.B = ([],1):=by unfold boxR zeroC;rfl
  unfold opnB
  rw [hb]
  rfl
theorem qB_two (q : Rat) : 2 ≤ (qB q).length:=by
  unfold qB
  rw [List.length_append]
  have h1:=zB_pos_len q.num
  have h2:=zB_pos_len (q.den : Int)
  omega
theorem line_bytes : ∃ r : List UInt8,clB lineC = 1 :: 1 :: r ∧ 9 ≤ r.length ∧ r.length ≤ 100000000000:=by
  have hb : boxR lineC.B = ([(((1 : Int) : Rat),((2 : Int) : Rat))],0):=box12
  have hF : lineC.F.map pV = [pV [((1,0,0),[49])]]:=rfl
  refine ⟨bxBy (boxR lineC.B).1 ++ [UInt8.ofNat lineC.F.length] ++ fsB (lineC.F.map pV), ?_, ?_, ?_⟩
  · unfold clB hdB
    rw [hb,if_neg (by decide),if_neg (by decide),List.append_nil,List.append_nil]
    rfl
  · rw [hb,hF]
    unfold bxBy fsB sB plB tsB
    simp only [List.flatMap_cons,List.flatMap_nil,List.append_nil,List.length_append,List.length_singleton]
    have h1:=qB_two ((1 : Int) : Rat)
    have h2:=qB_two ((2 : Int) : Rat)
    have h3:=vput_pos (pV [((1,0,0),[49])]).length
    have h4 : 5 ≤ (List.flatMap tB (pV [((1,0,0),[49])])).length:=by
      unfold pV
      simp only [List.map_cons,List.map_nil,List.flatMap_cons,List.flatMap_nil,List.append_nil]
      unfold tB mB
      rw [List.length_append]
      have:=qB_two ((rpO [49]).getD 0)
      simp only [List.length_cons,List.length_nil]
      omega
    omega
  · have h1:=(okFs_at (opn_facts line_opn).2.2.2.1 (t:=[((1,0,0),[49])]) (List.mem_singleton.2 rfl)).1
    have h2:=plV_len h1 (by simp)
    rw [hb,hF]
    unfold fsB
    simp only [List.flatMap_cons,List.flatMap_nil,List.append_nil,List.length_append,List.length_singleton]
    have h3:=(bxBy_len (l:=[(((1 : Int) : Rat),((2 : Int) : Rat))]) fun p hp => by
      obtain rfl:=List.mem_singleton.1 hp
      exact ⟨qb_small 1 (by decide),qb_small 2 (by decide)⟩).1
    simp only [List.length_singleton] at h3
    omega
theorem law19_Line : C E 39 [] (clD lineC):=by
  refine CG_introz Tryz.func39 rfl (by kernel_rfl) rfl (by kernel_rfl) (by kernel_rfl) rfl ?_
  simp (maxSteps:=3000000) (disch:=first|exact dd|fail) only [go_sem,seval]
  refine LeV.agg (LesV.cons (LeV.refl _) (LesV.cons (LeV.ro rfl fun i hi => ?_) (LesV.cons (LeV.ro rfl fun i hi => ?_) (LesV.cons (LeV.refl _) (LesV.cons (LeV.refl _) (LesV.cons LeV.nils (LesV.cons LeV.nils LesV.nil)))))))
  · obtain rfl : i = 0:=by omega
    refine Le.ro fun j hj => ?_
    obtain rfl : j = 0:=by omega
    exact Le.refl _
  · obtain rfl : i = 0:=by omega
    exact Le.refl _
theorem alive19 : C E 12 [] (.bool true):=by
  refine CG_intro Tryz.func12 rfl (by kernel_rfl) rfl (by kernel_rfl) (by kernel_rfl) rfl ?_
  have hL:=law19_Line
  have hB:=claim_Bytes line_ok
  have hR:=claim_Right line_ok
  have hZ:=claim_Right zero_ok
  obtain ⟨r,hr1,hr2,hr3⟩:=line_bytes
  unfold clBD at hB
  rw [line_opn,if_pos rfl,hr1] at hB
  rw [line_opn] at hR
  rw [zero_opn] at hZ
  have hlen : (1 :: 1 :: r : List UInt8).length = r.length + 2:=by simp
  generalize hb : (1 :: 1 :: r : List UInt8) = b at *
  simp (disch:=first|exact dd|fail) only [go_sem,seval]
  refine cA hL ?_
  simp (disch:=first|exact dd|fail) only [go_sem,seval]
  refine cA hB ?_
  simp (disch:=first|exact dd|fail) only [go_sem,seval]
  refine cA hL ?_
  simp (disch:=first|exact dd|fail) only [go_sem,seval]
  refine cA hR ?_
  simp (disch:=first|exact dd|fail) only [go_sem,seval]
  refine callC hZ (LesV.cons (LeV.agg (LesV.cons (LeV.refl _) (LesV.cons LeV.nils (LesV.cons LeV.nils (LesV.cons (LeV.refl _) (LesV.cons (LeV.refl _) (LesV.cons LeV.nils (LesV.cons LeV.nils LesV.nil)))))))) LesV.nil) rfl ?_
  have ht : (b.take 2).drop 0 = [1,1]:=by rw [← hb];rfl
  simp (disch:=first|exact dd|fail) only [go_sem,seval,ht,hlen]
  try exact LeV.refl _
structure Lm where
  r : Int
  p : Int
  b : Int
  d : Int
  t : Int
def I6 (n : Int) : Prop:=-9223372036854775808 ≤ n ∧ n ≤ 9223372036854775807
def Lm.ok (l : Lm) : Prop:=I6 l.b ∧ I6 l.t
def lmD (l : Lm) : D:=.agg [.int .i64 l.r, .int .i64 l.p, .int .i64 l.b, .int .i64 l.d, .int .i64 l.t]
def rdB (b : Txt) (l : Lm) (s : Rs) : Blk:=.var true 8 (.agg [.str b, .int .i64 s.1, .int .i64 l.r, .int .i64 l.p, .int .i64 l.b, .int .i64 l.d, .int .i64 l.t, .int .i64 s.2])
def rdH (b : Txt) (l : Lm) (s : Rs) : Hp:=[(0,rdB b l s)]
theorem in_byte {b : Txt} {l : Lm} {s : Rs} (hs : RsOk b s) (hb : b.length < 100000000) : CG E 112 [.ad 0 0] (rdH b l s) (.int .i64 (byF b s).1) (rdH b l (byF b s).2):=by
  refine CG_intro Tryz.func112 rfl (by kernel_rfl) rfl (by kernel_rfl) (by kernel_rfl) rfl ?_
  obtain ⟨p,e⟩:=s
  obtain ⟨h1,h2⟩:=hs
  simp only at h1 h2
  by_cases he : e = 0
  · subst he
    by_cases hp : b.length ≤ p
    · have hr : byF b (p,0) = (0,(p,4)):=by unfold byF;rw [if_neg (by simp),if_pos hp]
      rw [hr]
      simp (disch:=first|exact dd|fail) only [go_sem,seval,rdH,rdB]
      try exact LeV.refl _
    · have hr : byF b (p,0) = ((b.getD p 0).toNat,(p + 1,0)):=by unfold byF;rw [if_neg (by simp),if_neg hp]
      rw [hr]
      have e1 : ((p : Int) + 1 - 1).toNat = p:=by omega
      have hc:=(b.getD p 0).toNat_lt
      simp (disch:=first|exact dd|fail) only [go_sem,seval,rdH,rdB,e1]
      try exact LeV.refl _
  · have hr:=byF_err (b:=b) (s:=(p,e)) he
    rw [hr]
    simp (disch:=first|exact dd|fail) only [go_sem,seval,rdH,rdB]
    try exact LeV.refl _
theorem in_count {b : Txt} {l : Lm} {s : Rs} (hs : RsOk b s) (hb : b.length < 100000000) {lo hi : Nat} (hl : lo < 1000 ∧ hi < 1000) : CG E 120 [.ad 0 0, .int .i64 lo, .int .i64 hi] (rdH b l s) (.int .i64 (cnF b lo hi s).1) (rdH b l (cnF b lo hi s).2):=by
  refine CG_intro Tryz.func120 rfl (by kernel_rfl) rfl (by kernel_rfl) (by kernel_rfl) rfl ?_
  have hB:=in_byte (l:=l) hs hb
  have hr:=byF_rs hs
  have hc : cnF b lo hi s = cnF b lo hi s:=rfl
  conv at hc => rhs;unfold cnF
  generalize cnF b lo hi s = res at *
  generalize byF b s = x at *
  obtain ⟨n,p,e⟩:=x
  simp only at hc hr hB
  obtain ⟨⟨r1,r2⟩,r3⟩:=hr
  simp only at r1 r2 r3
  simp (disch:=first|exact dd|fail) only [go_sem,seval,rdH,rdB]
  refine callG [0] hB rfl rfl (LesV.refl _) rfl ?_
  simp (disch:=first|exact dd|fail) only [go_sem,seval,rdH,rdB]
  by_cases he : e = 0
  · subst he
    rw [if_neg (by simp)] at hc
    by_cases h1 : n < lo
    · rw [if_pos (.inl h1)] at hc
      subst hc
      simp (disch:=first|exact dd|fail) only [go_sem,seval]
      try exact LeV.refl _
    · by_cases h2 : hi < n
      · rw [if_pos (.inr h2)] at hc
        subst hc
        simp (disch:=first|exact dd|fail) only [go_sem,seval]
        try exact LeV.refl _
      · rw [if_neg (by omega)] at hc
        subst hc
        simp (disch:=first|exact dd|fail) only [go_sem,seval]
        try exact LeV.refl _
  · rw [if_pos he] at hc
    subst hc
    simp (disch:=first|exact dd|fail) only [go_sem,seval]
    try exact LeV.refl _
theorem in_rat {b : Txt} {l : Lm} {s : Rs} (hs : RsOk b s) (hb : b.length < 100000000) (hl : l.ok) : CG E 113 [.ad 0 0] (rdH b l s) (.str (raF b l.b s).1) (rdH b l (raF b l.b s).2):=by
  refine CG_intro Tryz.func113 rfl (by kernel_rfl) rfl (by kernel_rfl) (by kernel_rfl) rfl ?_
  obtain ⟨p,e⟩:=s
  obtain ⟨h1,h2⟩:=hs
  simp only at h1 h2
  by_cases he : e = 0
  · subst he
    have hG:=vint_GetRat (b:=b) (a:=(p : Int)) (bits:=l.b) (by omega) hl.1 hb
    have hT:=rat_Text (qget_qb (b:=b) (a:=(p : Int)) (bits:=l.b) hb)
    have hR:=(qget_rs b p l.b).1
    have hr : raF b l.b (p,0) = (decQ (qget b p l.b).1,(qget b p l.b).2):=by unfold raF;rw [if_neg (by simp)]
    rw [hr]
    generalize qget b p l.b = x at *
    obtain ⟨q,p2,c⟩:=x
    obtain ⟨r1,r2⟩:=hR
    simp only at r1 r2
    unfold qgD at hG
    simp only at hG hT ⊢
    simp (disch:=first|exact dd|fail) only [go_sem,seval,rdH,rdB]
    refine cL hG ?_
    simp (disch:=first|exact dd|fail) only [go_sem,seval]
    refine cA hT ?_
    simp (disch:=first|exact dd|fail) only [go_sem,seval]
    try exact LeV.refl _
  · have hr:=raF_err (b:=b) (bits:=l.b) (s:=(p,e)) he
    rw [hr]
    simp (disch:=first|exact dd|fail) only [go_sem,seval,rdH,rdB]
    try exact LeV.refl _
theorem in_pair {b : Txt} {l : Lm} {s : Rs} (hs : RsOk b s) (hb : b.length < 100000000) (hl : l.ok) : CG E 109 [.ad 0 0] (rdH b l s) (.agg [.str (prF b l.b s).1.1, .str (prF b l.b s).1.2]) (rdH b l (prF b l.b s).2):=by
  refine CG_intro Tryz.func109 rfl (by kernel_rfl) rfl (by kernel_rfl) (by kernel_rfl) rfl ?_
  have g1:=in_rat (l:=l) hs hb hl
  have g2:=in_rat (l:=l) (raF_rs (bits:=l.b) hs) hb hl
  unfold prF
  generalize raF b l.b (raF b l.b s).2 = y at *
  generalize raF b l.b s = x at *
  simp (disch:=first|exact dd|fail) only [go_sem,seval,rdH,rdB]
  refine callG [0] g1 rfl rfl (LesV.refl _) rfl ?_
  simp (disch:=first|exact dd|fail) only [go_sem,seval,rdH,rdB]
  refine callG [0] g2 rfl rfl (LesV.refl _) rfl ?_
  simp (disch:=first|exact dd|fail) only [go_sem,seval,rdH,rdB]
  try exact LeV.refl _
theorem claim_from {b : Txt} {l : Lm} {a : Int} (hb : b.length < 100000000) (h0 : 0 ≤ a) (h1 : a ≤ b.length) : CG E 69 [.str b, .int .i64 a,lmD l] [] (.ad 1 0) [(1,rdB b l (a.toNat,0))]:=by
  refine CG_intro Tryz.func69 rfl (by kernel_rfl) rfl (by kernel_rfl) (by kernel_rfl) rfl ?_
  have e : ((a.toNat : Nat) : Int) = a:=by omega
  simp (disch:=first|exact dd|fail) only [go_sem,seval,lmD,rdB,e]
  try exact LeV.refl _
def lm0 : Lm:=⟨0,0,0,0,0⟩
theorem claim_from0 {b : Txt} {l : Lm} {a : Int} (hb : b.length < 100000000) (h : a < 0 ∨ (b.length : Int) < a) : CG E 69 [.str b, .int .i64 a,lmD l] [] (.ad 1 0) [(1,rdB [] lm0 (0,1))]:=by
  refine CG_intro Tryz.func69 rfl (by kernel_rfl) rfl (by kernel_rfl) (by kernel_rfl) rfl ?_
  rcases h with h | h
  · simp (disch:=first|exact dd|fail) only [go_sem,seval,lmD,rdB,lm0]
    try exact LeV.refl _
  · simp (disch:=first|exact dd|fail) only [go_sem,seval,lmD,rdB,lm0]
    try exact LeV.refl _
theorem txR_app {acc : List (Txt × Txt)} {p : Txt × Txt} {j : Nat} (hj : j < acc.length + 1) : Le (if j < acc.length then txR acc j else [D.agg [.str p.1, .str p.2]].getD (j - acc.length) .unk) (txR (acc ++ [p]) j):=by
  unfold txR
  by_cases h : j < acc.length
  · rw [if_pos h,List.getD_eq_getElem?_getD,List.getD_eq_getElem?_getD,List.getElem?_append_left h]
    exact Le.refl _
  · obtain rfl : j = acc.length:=by omega
    rw [if_neg h,Nat.sub_self,List.getD_eq_getElem?_getD (l:=acc ++ [p]),List.getElem?_append_right (by omega),Nat.sub_self]
    exact Le.refl _
theorem in_box {b : Txt} {l : Lm} {s : Rs} (hs : RsOk b s) (hb : b.length < 100000000) (hl : l.ok) {n : Nat} (hn : n ≤ 1000) : CG E 70 [.ad 0 0, .int .i64 n] (rdH b l s) (txD (bxF b l.b n s).1) (rdH b l (bxF b l.b n s).2):=by
  refine CG_intro Tryz.func70 rfl (by kernel_rfl) rfl (by kernel_rfl) (by kernel_rfl) rfl ?_
  have hF : bxF b l.b n s = frm (fun l => decide ((boxR l).2 = 0)) (bxG b l.b n [] s):=rfl
  generalize bxF b l.b n s = res at *
  simp (disch:=first|exact dd|fail) only [go_sem,seval,rdH,rdB]
  refine AL.ofN 5 true 2 (fun _ => .unk) (fun x : List (Txt × Txt) × Rs => bxG b l.b n [] s = bxG b l.b (n - x.1.length) x.1 x.2 ∧ x.1.length ≤ n ∧ RsOk b x.2 ∧ ∀ p ∈ x.1,shT p.1 ∧ shT p.2) (fun x => n - x.1.length)
    (fun x => [(0, .ad 0 0),(1, .int .i64 n),(5, .sl 1 x.1.length 0 x.1.length),(6, .int .i64 x.1.length)])
    (fun x => [(0,rdB b l x.2),(1, .row false x.1.length true 2 x.1.length (txR x.1))]) ([],s) (by simp (disch:=first|exact dd|fail) only [go_sem,seval]) ⟨rfl,Nat.zero_le _,hs,fun p hp => by cases hp⟩ ?_ ?_ ?_ ?_
  · simp (disch:=first|exact dd|fail) only [go_sem,seval,List.length_nil]
    try exact LeV.refl _
  · simp (disch:=first|exact dd|fail) only [go_sem,seval,rdB,List.length_nil]
    exact fun j hj => absurd hj (by omega)
  · intro x _;simp (disch:=first|exact dd|fail) only [go_sem,seval,rdB]
  rintro ⟨acc,s⟩ ⟨h1,h2,h3,h4⟩
  simp only at h1 h2 h3 h4
  have hP:=claim_PutBox (l:=acc) (by omega) h4
  have fin : bxG b l.b n [] s = (acc,s) → True:=fun _ => trivial
  have hg:=in_pair (l:=l) h3 hb hl
  have hg2:=prF_rs (bits:=l.b) h3
  have hg3:=prF_sh (bits:=l.b) (s:=s) hb
  have hnx : s.2 = 0 → acc.length < n → bxG b l.b (n - acc.length) acc s = bxG b l.b (n - (acc ++ [(prF b l.b s).1]).length) (acc ++ [(prF b l.b s).1]) (prF b l.b s).2:=fun q1 q2 => by
    rw [show n - acc.length = (n - acc.length - 1) + 1 by omega,bxG,if_neg (by omega),List.length_append,List.length_singleton,Nat.sub_sub]
  have hap:=fun (j : Nat) => txR_app (acc:=acc) (p:=(prF b l.b s).1) (j:=j)
  have hal : ∀ p : Txt × Txt,(acc ++ [p]).length = acc.length + 1:=fun p => by rw [List.length_append,List.length_singleton]
  generalize prF b l.b s = x at *
  obtain ⟨⟨t1,t2⟩,sx⟩:=x
  simp only at hg hg2 hg3 hnx hap
  unfold bxOkD at hP
  have stop : (acc.length = n ∨ s.2 ≠ 0) → bxG b l.b (n - acc.length) acc s = (acc,s):=fun q => by
    by_cases q2 : s.2 ≠ 0
    · exact bxG_err q2 _ _
    · rw [show n - acc.length = 0 by omega];rfl
  obtain ⟨p,e⟩:=s
  obtain ⟨r1,r2⟩:=h3
  simp only at r1 r2 hnx stop
  by_cases hk : acc.length = n
  · have hst:=stop (.inl hk)
    rw [h1,hst] at hF
    by_cases he : e = 0
    · subst he
      by_cases ho : (boxR acc).2 = 0
      · rw [frm_ok (by simp [ho])] at hF
        subst hF
        simp only [ho,if_true,decide_true] at hP
        simp (disch:=first|exact dd|fail) only [go_sem,seval,rdB]
        refine callC hP ?_ rfl ?_
        · simp (disch:=first|exact dd|fail) only [go_sem,seval]
          try exact LesV.refl _
        simp (disch:=first|exact dd|fail) only [go_sem,seval]
        try exact LeV.refl _
      · rw [frm_no rfl (by simp [ho])] at hF
        subst hF
        simp only [ho,if_false,decide_false] at hP
        simp (disch:=first|exact dd|fail) only [go_sem,seval,rdB]
        refine callC hP ?_ rfl ?_
        · simp (disch:=first|exact dd|fail) only [go_sem,seval]
          try exact LesV.refl _
        simp (disch:=first|exact dd|fail) only [go_sem,seval]
        try exact LeV.refl _
    · rw [frm_err he] at hF
      subst hF
      simp (disch:=first|exact dd|fail) only [go_sem,seval,rdB]
      refine callC hP ?_ rfl ?_
      · simp (disch:=first|exact dd|fail) only [go_sem,seval]
        try exact LesV.refl _
      simp (disch:=first|exact dd|fail) only [go_sem,seval]
      try exact LeV.refl _
  by_cases he : e = 0
  case neg =>
    have hst:=stop (.inr he)
    rw [h1,hst,frm_err he] at hF
    subst hF
    simp (disch:=first|exact dd|fail) only [go_sem,seval,rdB]
    refine callC hP ?_ rfl ?_
    · simp (disch:=first|exact dd|fail) only [go_sem,seval]
      try exact LesV.refl _
    simp (disch:=first|exact dd|fail) only [go_sem,seval]
    try exact LeV.refl _
  subst he
  have hnx:=hnx rfl (by omega)
  clear stop hP
  simp (disch:=first|exact dd|fail) only [go_sem,seval,rdB]
  refine callG [0] hg rfl rfl (LesV.refl _) rfl ?_
  simp (disch:=first|exact dd|fail) only [go_sem,seval,rdH,rdB]
  refine ⟨.inl trivial, .inr trivial,by omega,by omega, ?_⟩
  refine ⟨(acc ++ [(t1,t2)],sx),⟨by rw [h1,hnx],by show (acc ++ [(t1,t2)]).length ≤ n;rw [hal];omega,hg2, ?_⟩,by show n - (acc ++ [(t1,t2)]).length < n - acc.length;rw [hal];omega, ?_, ?_⟩
  · intro p hp
    rcases List.mem_append.1 hp with hp | hp
    · exact h4 p hp
    · obtain rfl:=List.mem_singleton.1 hp
      exact hg3
  · simp (disch:=first|exact dd|fail) only [go_sem,seval,hal]
    try exact LeV.refl _
  · simp (disch:=first|exact dd|fail) only [go_sem,seval,rdB,hal]
    try exact fun j hj => hap j (by omega)
theorem tmR_app {acc : List Tm} {a b c : UInt8} {t : Txt} {j : Nat} (hj : j < acc.length + 1) : Le (if j < acc.length then tmR acc j else [D.agg [.int .u8 a.toNat, .int .u8 b.toNat, .int .u8 c.toNat, .str t]].getD (j - acc.length) .unk) (tmR (acc ++ [((a,b,c),t)]) j):=by
  unfold tmR
  by_cases h : j < acc.length
  · rw [if_pos h,List.getD_eq_getElem?_getD,List.getD_eq_getElem?_getD,List.getElem?_append_left h]
    exact Le.refl _
  · obtain rfl : j = acc.length:=by omega
    rw [if_neg h,Nat.sub_self,List.getD_eq_getElem?_getD (l:=acc ++ _),List.getElem?_append_right (by omega),Nat.sub_self]
    exact Le.refl _
theorem u8_nat {n : Nat} (h : n < 256) : (UInt8.ofNat n).toNat = n:=by rw [UInt8.toNat_ofNat'];omega
def PlP (b : Txt) (l : Lm) (N : Nat) (s1 : Rs) (x : List Tm × Rs) : Prop:=plG b l.b N [] s1 = plG b l.b (N - x.1.length) x.1 x.2 ∧ x.1.length ≤ N ∧ RsOk b x.2 ∧ (∀ p ∈ x.1,shT p.2) ∧ x.1.length ≤ b.length + 1 ∧ (x.2.2 = 0 → x.1.length ≤ x.2.1)
theorem PlP.next {b : Txt} {l : Lm} {N : Nat} {s1 : Rs} {acc : List Tm} {s : Rs} (h : PlP b l N s1 (acc,s)) (hb : b.length < 100000000) (he : s.2 = 0) (hk : acc.length < N) : PlP b l N s1 (acc ++ [(tmF b l.b s).1],(tmF b l.b s).2):=by
  obtain ⟨h1,h2,h3,h4,h5,h6⟩:=h
  simp only at h1 h2 h3 h4 h5 h6
  have hal : (acc ++ [(tmF b l.b s).1]).length = acc.length + 1:=by rw [List.length_append,List.length_singleton]
  have hr:=tmF_rs (bits:=l.b) h3
  refine ⟨?_,by rw [hal];omega,hr, ?_, ?_, ?_⟩
  · rw [h1,show N - acc.length = (N - acc.length - 1) + 1 by omega,plG,if_neg (by omega),hal,Nat.sub_sub]
  · intro p hp
    rcases List.mem_append.1 hp with hp | hp
    · exact h4 p hp
    · obtain rfl:=List.mem_singleton.1 hp
      exact raF_sh hb
  · rw [hal]
    have:=h6 he
    have:=h3.1
    omega
  · intro e
    have:=tmF_ok e
    have:=h6 he
    rw [hal]
    show acc.length + 1 ≤ (tmF b l.b s).2.1
    omega
theorem PlP.fin {b : Txt} {l : Lm} {N : Nat} {s1 : Rs} {acc : List Tm} {s : Rs} (h : PlP b l N s1 (acc,s)) (hq : acc.length = N ∨ s.2 ≠ 0) : plG b l.b N [] s1 = (acc,s):=by
  obtain ⟨h1,h2,_⟩:=h
  simp only at h1 h2
  rw [h1]
  by_cases q2 : s.2 ≠ 0
  · exact plG_err q2 _ _
  · rw [show N - acc.length = 0 by omega];rfl
theorem in_poly {b : Txt} {l : Lm} {s : Rs} (hs : RsOk b s) (hb : b.length < 100000) (hl : l.ok) : CG E 74 [.ad 0 0] (rdH b l s) (tmD (plF b l.t l.b s).1) (rdH b l (plF b l.t l.b s).2):=by
  refine CG_intro Tryz.func74 rfl (by kernel_rfl) rfl (by kernel_rfl) (by kernel_rfl) rfl ?_
  obtain ⟨p0,e0⟩:=s
  obtain ⟨g1,g2⟩:=hs
  simp only at g1 g2
  by_cases he0 : e0 = 0
  case neg =>
    have hr:=plF_err (b:=b) (T:=l.t) (bits:=l.b) (s:=(p0,e0)) he0
    rw [hr]
    simp (disch:=first|exact dd|fail) only [go_sem,seval,rdH,rdB]
    exact LeV.nils
  subst he0
  have hF : plF b l.t l.b (p0,0) = frm plOk (plG b l.b (vget b p0).1 [] (plS b l.t p0)):=by unfold plF;rw [if_neg (by simp)]
  generalize plF b l.t l.b (p0,0) = res at *
  have hG:=vint_Get b p0 (by omega) (by omega)
  have hS:=plS_rs b l.t p0
  have hlt:=vget_lt b p0
  have hSe : plS b l.t p0 = plS b l.t p0:=rfl
  conv at hSe => rhs;unfold plS
  generalize plS b l.t p0 = s1 at *
  have hvr : (vget b p0).2.1 ≤ b.length ∧ (vget b p0).2.2 < 18:=by
    by_cases h : (vget b p0).2.2 = 0
    · have:=vget_end h;omega
    · have:=vget_err h;omega
  generalize vget b p0 = x at *
  obtain ⟨N,p1,e1⟩:=x
  simp only at hF hSe hlt hvr
  unfold vgD at hG
  have hlt2:=hl.2
  unfold I6 at hlt2
  have pre : ∀ {R : Prop},(e1 ≠ 0 → s1 = (p1,e1) → R) → (e1 = 0 → max l.t 0 < (N : Int) → s1 = (p1,16) → R) → (e1 = 0 → ¬ max l.t 0 < (N : Int) → s1 = (p1,0) → R) → R:=fun {R} q1 q2 q3 => by
    by_cases h : e1 = 0
    · by_cases h2 : max l.t 0 < (N : Int)
      · rw [if_pos ⟨h,h2⟩] at hSe
        exact q2 h h2 hSe
      · rw [if_neg (by simp [h2])] at hSe
        exact q3 h h2 (by rw [hSe,h])
    · rw [if_neg (by simp [h])] at hSe
      exact q1 h hSe
  refine pre (fun k1 k2 => ?_) (fun k1 k2 k3 => ?_) (fun k1 k2 k3 => ?_)
  all_goals
    clear pre hSe
    try subst k1
    subst s1
    simp (disch:=first|exact dd|fail) only [go_sem,seval,rdH,rdB]
    refine cL hG ?_
    simp (disch:=first|exact dd|fail) only [go_sem,seval]
    refine AL.ofN 6 true 4 (fun _ => .unk) (PlP b l N _) (fun x => N - x.1.length)
      (fun x => [(0, .ad 0 0),(3, .int .u64 N),(6, .sl 1 x.1.length 0 x.1.length),(7, .int .u64 x.1.length)])
      (fun x => [(0,rdB b l x.2),(1, .row false x.1.length true 4 x.1.length (tmR x.1))]) ([],_) (by simp (disch:=first|exact dd|fail) only [go_sem,seval]) ⟨rfl,Nat.zero_le _,hS,(fun p hp => nomatch hp),Nat.zero_le _,fun _ => Nat.zero_le _⟩ ?_ ?_ ?_ ?_
    · simp (disch:=first|exact dd|fail) only [go_sem,seval,List.length_nil]
      try exact LeV.refl _
    · simp (disch:=first|exact dd|fail) only [go_sem,seval,rdB,List.length_nil]
      exact fun j hj => absurd hj (by omega)
    · intro x _;simp (disch:=first|exact dd|fail) only [go_sem,seval,rdB]
    rintro ⟨acc,s⟩ hP
    have h3:=hP.2.2.1
    have h5:=hP.2.2.2.2.1
    have hN:=hP.2.1
    have hfin:=hP.fin
    have hnx:=hP.next (by omega)
    have hPP:=claim_PutPoly (l:=acc) (by simp only at h5;omega) hP.2.2.2.1
    unfold pokD at hPP
    obtain ⟨p,e⟩:=s
    obtain ⟨r1,r2⟩:=h3
    simp only at r1 r2 h5 hN hfin hnx
    clear hP
    by_cases he : e = 0
    case neg =>
      have hst:=hfin (.inr he)
      rw [hst,frm_err he] at hF
      subst hF
      clear hfin hnx
      by_cases hk : acc.length = N
      · simp (disch:=first|exact dd|fail) only [go_sem,seval,rdB]
        refine callC hPP ?_ rfl ?_
        · simp (disch:=first|exact dd|fail) only [go_sem,seval]
          try exact LesV.refl _
        simp (disch:=first|exact dd|fail) only [go_sem,seval]
        try exact LeV.refl _
      · simp (disch:=first|exact dd|fail) only [go_sem,seval,rdB]
        refine callC hPP ?_ rfl ?_
        · simp (disch:=first|exact dd|fail) only [go_sem,seval]
          try exact LesV.refl _
        simp (disch:=first|exact dd|fail) only [go_sem,seval]
        try exact LeV.refl _
    subst he
    by_cases hk : acc.length = N
    case pos =>
      have hst:=hfin (.inl hk)
      rw [hst] at hF
      clear hfin hnx
      cases ho : plOk acc with
      | true =>
        rw [frm_ok ho] at hF
        subst hF
        rw [ho] at hPP
        simp (disch:=first|exact dd|fail) only [go_sem,seval,rdB]
        refine callC hPP ?_ rfl ?_
        · simp (disch:=first|exact dd|fail) only [go_sem,seval]
          try exact LesV.refl _
        simp (disch:=first|exact dd|fail) only [go_sem,seval]
        try exact LeV.refl _
      | false =>
        rw [frm_no rfl ho] at hF
        subst hF
        rw [ho] at hPP
        simp (disch:=first|exact dd|fail) only [go_sem,seval,rdB]
        refine callC hPP ?_ rfl ?_
        · simp (disch:=first|exact dd|fail) only [go_sem,seval]
          try exact LesV.refl _
        simp (disch:=first|exact dd|fail) only [go_sem,seval]
        try exact LeV.refl _
    have hnx:=hnx rfl (by omega)
    clear hfin hPP hF
    have hap:=fun (a b c : UInt8) (t : Txt) (j : Nat) => tmR_app (acc:=acc) (a:=a) (b:=b) (c:=c) (t:=t) (j:=j)
    have hal : ∀ p : Tm,(acc ++ [p]).length = acc.length + 1:=fun p => by rw [List.length_append,List.length_singleton]
    have s0 : RsOk b (p,0):=⟨r1,r2⟩
    have b1:=in_byte (l:=l) s0 (by omega)
    have s1:=byF_rs s0
    have b2:=in_byte (l:=l) s1.1 (by omega)
    have s2:=byF_rs s1.1
    have b3:=in_byte (l:=l) s2.1 (by omega)
    have s3:=byF_rs s2.1
    have b4:=in_rat (l:=l) s3.1 (by omega) hl
    have t1:=u8_nat s1.2
    have t2:=u8_nat s2.2
    have t3:=u8_nat s3.2
    have v1:=s1.2
    have v2:=s2.2
    have v3:=s3.2
    clear s0 s1 s2 s3
    unfold tmF at hnx
    generalize raF b l.b (byF b (byF b (byF b (p,0)).2).2).2 = y at *
    generalize byF b (byF b (byF b (p,0)).2).2 = x3 at *
    generalize byF b (byF b (p,0)).2 = x2 at *
    generalize byF b (p,0) = x1 at *
    obtain ⟨n1,q1⟩:=x1
    obtain ⟨n2,q2⟩:=x2
    obtain ⟨n3,q3⟩:=x3
    obtain ⟨t,q4⟩:=y
    simp only at b1 b2 b3 b4 t1 t2 t3 v1 v2 v3 hnx
    simp (disch:=first|exact dd|fail) only [go_sem,seval,rdB]
    refine AL.step ?_
    simp (disch:=first|exact dd|fail) only [go_sem,seval,rdB]
    refine callG [0] b1 rfl rfl (LesV.refl _) rfl ?_
    simp (disch:=first|exact dd|fail) only [go_sem,seval,rdH,rdB]
    refine AL.step ?_
    simp (disch:=first|exact dd|fail) only [go_sem,seval,rdB]
    refine callG [0] b2 rfl rfl (LesV.refl _) rfl ?_
    simp (disch:=first|exact dd|fail) only [go_sem,seval,rdH,rdB]
    refine AL.step ?_
    simp (disch:=first|exact dd|fail) only [go_sem,seval,rdB]
    refine callG [0] b3 rfl rfl (LesV.refl _) rfl ?_
    simp (disch:=first|exact dd|fail) only [go_sem,seval,rdH,rdB]
    refine AL.step ?_
    simp (disch:=first|exact dd|fail) only [go_sem,seval,rdB]
    refine callG [0] b4 rfl rfl (LesV.refl _) rfl ?_
    simp (disch:=first|exact dd|fail) only [go_sem,seval,rdH,rdB]
    refine ⟨.inl trivial, .inr trivial,by omega,by omega, ?_⟩
    refine ⟨(acc ++ [((UInt8.ofNat n1,UInt8.ofNat n2,UInt8.ofNat n3),t)],q4),hnx,by show N - (acc ++ [_]).length < N - acc.length;rw [hal];omega, ?_, ?_⟩
    · simp (disch:=first|exact dd|fail) only [go_sem,seval,hal]
      try exact LeV.refl _
    · have hj:=hap (UInt8.ofNat n1) (UInt8.ofNat n2) (UInt8.ofNat n3) t
      rw [t1,t2,t3] at hj
      simp (disch:=first|exact dd|fail) only [go_sem,seval,rdB,hal]
      try exact fun j h => hj j (by omega)
def fnV {α : Type} (d : α) (x : α × Rs) : α × Rs:=if x.2.2 = 0 then x else (d,(0,x.2.2))
theorem fnV_ok {α : Type} {d : α} {x : α × Rs} (h : x.2.2 = 0) : fnV d x = x:=if_pos h
theorem fnV_err {α : Type} {d : α} {x : α × Rs} (h : x.2.2 ≠ 0) : fnV d x = (d,(0,x.2.2)):=if_neg h
theorem u8_self (x : UInt8) : UInt8.ofNat x.toNat = x:=by simp
theorem byF_at {b : Txt} {p : Nat} (h : p < b.length) : byF b (p,0) = ((b.getD p 0).toNat,(p + 1,0)):=by
  unfold byF
  rw [if_neg (by simp),if_neg (by show ¬ b.length ≤ p;omega)]
theorem tmF_long {b : Txt} {bits : Int} {p : Nat} (h : p + 3 ≤ b.length) : tmF b bits (p,0) = (((b.getD p 0,b.getD (p + 1) 0,b.getD (p + 2) 0),decQ (qget b ((p + 3 : Nat) : Int) bits).1),(qget b ((p + 3 : Nat) : Int) bits).2):=by
  have hr : raF b bits (p + 3,0) = (decQ (qget b ((p + 3 : Nat) : Int) bits).1,(qget b ((p + 3 : Nat) : Int) bits).2):=by unfold raF;rw [if_neg (by simp)]
  unfold tmF
  rw [byF_at (b:=b) (p:=p) (by omega)]
  simp only
  rw [byF_at (b:=b) (p:=p + 1) (by omega)]
  simp only
  rw [byF_at (b:=b) (p:=p + 1 + 1) (by omega)]
  simp only
  rw [hr,u8_self,u8_self,u8_self]
def termB (e : Nat) (t : Tm) : Bool:=decide (t.2.length ≤ 30) && decide (t.1.1.toNat ≤ e) && decide (t.1.2.1.toNat ≤ e) && decide (t.1.2.2.toNat ≤ e)
def termsB (l : List Tm) (m e : Nat) : Bool:=decide (l.length ≤ m) && l.all (termB e)
theorem book_Terms {l : List Tm} {m e : Nat} (hm : m < 1000) (he : e < 1000) : C E 30 [tmD l, .int .i64 m, .int .i64 e] (.bool (termsB l m e)):=by
  refine CG_intro Tryz.func30 rfl (by kernel_rfl) rfl (by kernel_rfl) (by kernel_rfl) rfl ?_
  unfold termsB
  by_cases hlen : l.length ≤ m
  case neg =>
    rw [decide_eq_false hlen]
    simp (disch:=first|exact dd|fail) only [go_sem,seval,tmD]
  rw [decide_eq_true hlen,Bool.true_and]
  have hl : l.length < 1073741824:=by omega
  simp (disch:=first|exact dd|fail) only [go_sem,seval,tmD]
  refine AL.of (fun i : Nat => i ≤ l.length ∧ ∀ j,j < i → termB e (l.getD j tm0) = true) (fun i => l.length - i) (fun i => [(0,tmD l),(2, .int .i64 e),(7, .int .i64 i)]) (fun _ => []) 0 ⟨Nat.zero_le _,fun j hj => absurd hj (by omega)⟩ ?_ ?_ ?_ ?_
  · simp (disch:=first|exact dd|fail) only [go_sem,seval,tmD]
    try exact LeV.refl _
  · simp (disch:=first|exact dd|fail) only [go_sem,seval]
  · intro x _;simp (disch:=first|exact dd|fail) only [go_sem,seval]
  rintro i ⟨hi,hok⟩
  by_cases hil : i = l.length
  · have hyes : l.all (termB e) = true:=by
      rw [List.all_eq_true]
      intro t ht
      obtain ⟨j,hj,rfl⟩:=List.mem_iff_getElem.1 ht
      have:=hok j (by omega)
      rw [List.getD_eq_getElem?_getD,List.getElem?_eq_getElem hj] at this
      exact this
    simp (disch:=first|exact dd|fail) only [go_sem,seval,tmD,hil,hyes]
  · have hp : tmR l i = tmC (l.getD i tm0):=rfl
    have hno : termB e (l.getD i tm0) = false → l.all (termB e) = false:=fun h => by
      rw [List.all_eq_false]
      exact ⟨_,getD_mem' l i tm0 (by omega),by rw [h];simp⟩
    have hyes : termB e (l.getD i tm0) = true → i + 1 ≤ l.length ∧ ∀ j,j < i + 1 → termB e (l.getD j tm0) = true:=fun h => ⟨by omega,fun j hj => by
      rcases Nat.lt_or_ge j i with h2 | h2
      · exact hok j h2
      · rw [show j = i by omega];exact h⟩
    generalize l.getD i tm0 = t at *
    obtain ⟨⟨a,b,c⟩,s⟩:=t
    have a1:=UInt8.toNat_lt a
    have b1:=UInt8.toNat_lt b
    have c1:=UInt8.toNat_lt c
    have htb : termB e ((a,b,c),s) = (decide (s.length ≤ 30) && decide (a.toNat ≤ e) && decide (b.toNat ≤ e) && decide (c.toNat ≤ e)):=rfl
    by_cases h0 : s.length ≤ 30
    case neg =>
      rw [hno (by rw [htb];simp [h0])]
      simp (disch:=first|exact dd|fail) only [go_sem,seval,tmD,hp,tmC]
    by_cases ha : a.toNat ≤ e
    case neg =>
      rw [hno (by rw [htb];simp [ha])]
      simp (disch:=first|exact dd|fail) only [go_sem,seval,tmD,hp,tmC]
    by_cases hb : b.toNat ≤ e
    case neg =>
      rw [hno (by rw [htb];simp [hb])]
      simp (disch:=first|exact dd|fail) only [go_sem,seval,tmD,hp,tmC]
    by_cases hc : c.toNat ≤ e
    case neg =>
      rw [hno (by rw [htb];simp [hc])]
      simp (disch:=first|exact dd|fail) only [go_sem,seval,tmD,hp,tmC]
    simp (disch:=first|exact dd|fail) only [go_sem,seval,tmD,hp,tmC]
    refine ⟨i + 1,hyes (by rw [htb];simp [h0,ha,hb,hc]),by show l.length - (i + 1) < l.length - i;omega, ?_, ?_⟩
    · simp (disch:=first|exact dd|fail) only [go_sem,seval,tmD]
      try exact LeV.refl _
    · simp (disch:=first|exact dd|fail) only [go_sem,seval]
theorem book_SameTerms (l : List Tm) (hl : l.length < 1073741824) : C E 35 [tmD l,tmD l] (.bool true):=by
  refine CG_intro Tryz.func35 rfl (by kernel_rfl) rfl (by kernel_rfl) (by kernel_rfl) rfl ?_
  simp (disch:=first|exact dd|fail) only [go_sem,seval,tmD]
  refine AL.of (fun i : Nat => i ≤ l.length) (fun i => l.length - i) (fun i => [(0,tmD l),(1,tmD l),(5, .int .i64 i)]) (fun _ => []) 0 (Nat.zero_le _) ?_ ?_ ?_ ?_
  · simp (disch:=first|exact dd|fail) only [go_sem,seval,tmD]
    try exact LeV.refl _
  · simp (disch:=first|exact dd|fail) only [go_sem,seval]
  · intro x _;simp (disch:=first|exact dd|fail) only [go_sem,seval]
  intro i hi
  by_cases hil : i = l.length
  · subst hil
    simp (disch:=first|exact dd|fail) only [go_sem,seval,tmD]
  · have hil' : i < l.length:=by omega
    have hp : tmR l i = tmC (l.getD i tm0):=rfl
    generalize l.getD i tm0 = t at *
    simp (disch:=first|exact dd|fail) only [go_sem,seval,tmD,hp,tmC]
    refine ⟨i + 1,hil',by show l.length - (i + 1) < l.length - i;omega, ?_, ?_⟩
    · simp (disch:=first|exact dd|fail) only [go_sem,seval,tmD]
      try exact LeV.refl _
    · simp (disch:=first|exact dd|fail) only [go_sem,seval]
section
variable (c : Lm) (h : Hp) (ρ : Nat → Option Nat) (r : Nat → Nat) (l : List Tm)
theorem flat_lmD : flat (lmD c) = true:=Eq.trans rfl rfl
theorem imp_lmD : imp ρ h (lmD c) = lmD c:=Eq.trans rfl rfl
end
attribute [go_sem] flat_lmD imp_lmD
abbrev shMono : Sh:=.st (.cons (.int .u8) (.cons (.int .u8) (.cons (.int .u8) .nil)))
abbrev shTerm : Sh:=.st (.cons shMono (.cons .str .nil))
abbrev TTerm:=(Int × Int × Int × Unit) × List UInt8 × Unit
def toTm (y : TTerm) : Tm:=((UInt8.ofNat y.1.1.toNat,UInt8.ofNat y.1.2.1.toNat,UInt8.ofNat y.1.2.2.1.toNat),y.2.1)
theorem u8_back {n : Int} (h : 0 ≤ n ∧ n ≤ 255) : (((UInt8.ofNat n.toNat).toNat : Nat) : Int) = n:=by
  rw [UInt8.toNat_ofNat'];omega
theorem term_d {y : TTerm} (w : Sh.wf shTerm y) : tmC (toTm y) = Sh.d shTerm y:=by
  obtain ⟨⟨a,b,c,u⟩,s,v⟩:=y
  have h1:=bounds_u8 (n:=a) w.1.1
  have h2:=bounds_u8 (n:=b) w.1.2.1
  have h3:=bounds_u8 (n:=c) w.1.2.2.1
  unfold tmC toTm
  simp only
  rw [u8_back h1,u8_back h2,u8_back h3]
  rfl
theorem terms_arg (x : Option (List TTerm)) (w : Sh.wf (.slc shTerm) x) : ∃ l : List Tm,LeV (Sh.d (.slc shTerm) x) (tmD l) ∧ (∀ p ∈ l,shT p.2):=by
  cases x with
  | none => exact ⟨[],LeV.nils,fun p hp => by cases hp⟩
  | some l =>
    refine ⟨l.map toTm, ?_,fun p hp => ?_⟩
    · refine LeV.ro (List.length_map toTm).symm fun i hi => Le.of_eq ?_
      have hz : (l[i]? : Option TTerm) = some l[i]:=List.getElem?_eq_getElem hi
      have ht : tmR (l.map toTm) i = tmC (toTm l[i]):=by
        rw [tmR,List.getD_eq_getElem?_getD,List.getElem?_map,hz];rfl
      rw [ht]
      refine Eq.trans ?_ (term_d (w.2 _ (List.getElem_mem hi))).symm
      split
      · rename_i y hy
        have : some y = some l[i]:=hy.symm.trans hz
        cases this
        rfl
      · rename_i hy
        have : none = some l[i]:=hy.symm.trans hz
        cases this
    · obtain ⟨y,hy,rfl⟩:=List.mem_map.1 hp
      have h:=w.2 y hy
      have h1 : y.2.1.length ≤ 9223372036854775807:=h.2.1
      exact Nat.lt_of_le_of_lt h1 (by decide)

end Go.Proofs.YtakaojkfipnfcaaGreatDoor.Lv
