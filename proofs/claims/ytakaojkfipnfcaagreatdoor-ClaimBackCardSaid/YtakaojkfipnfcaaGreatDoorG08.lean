/- The abstract machine: code, and contracts. -/
import Derived.Test.YtakaojkfipnfcaaGreatDoorG07
import Derived.Deep.LoopGhost
import Derived.LoopN
import Derived.RangeFuncSeq
import Derived.RangeFuncRecord
set_option linter.unusedVariables false
set_option linter.unusedSimpArgs false
set_option maxRecDepth 100000
set_option maxHeartbeats 4000000
namespace Go.Proofs.YtakaojkfipnfcaaGreatDoor.Lv
open Go Go.RowKit
def Wk (n : Nat) (s s' : St) : Prop:=∀ B φ S a w,mx B.h0 ≤ n → Rel B s φ S a w → ∃ φ' S',Rel B s' φ' S' a w
theorem Wk.trans {n : Nat} {s s' s'' : St} (h : Wk n s s') (h' : Wk n s' s'') : Wk n s s'':=fun B φ S a w hn hr => let ⟨φ',S',hr'⟩:=h B φ S a w hn hr;h' B φ' S' a w hn hr'
def noFz : Hp → Bool
  | [] => true
  | (_, .var ..) :: r => noFz r
  | (_, .row fz ..) :: r => !fz && noFz r
def kn (h h' : Hp) : Bool:=h.all fun p => (lookB h' p.1).isSome
def Frs (h : Hp) (nx : Nat) (h' : Hp) (nx' : Nat) : Prop:=(h'.all fun p => (lookB h p.1).isSome || decide (nx ≤ p.1)) = true ∧ nx ≤ nx'
def Onw (h : Hp) (nx : Nat) (h' : Hp) (nx' : Nat) : Prop:=kn h h' = true ∧ Frs h nx h' nx'
theorem noFz_spec : ∀ {h : Hp},noFz h = true → ∀ b fz ver ag sz n f ty,lookB h b = some (.row fz ver ag sz n f ty) → fz = false
  | (j, .var ..) :: r,h,b,fz,ver,ag,sz,n,f,ty,hl => by
    simp only [noFz] at h
    simp only [lookB] at hl
    split at hl
    · cases hl
    · exact noFz_spec h b fz ver ag sz n f ty hl
  | (j, .row fz' ..) :: r,h,b,fz,ver,ag,sz,n,f,ty,hl => by
    simp only [noFz,Bool.and_eq_true,Bool.not_eq_true'] at h
    simp only [lookB] at hl
    split at hl
    · cases hl;exact h.1
    · exact noFz_spec h.2 b fz ver ag sz n f ty hl
theorem look_mem : ∀ {h : Hp} {b : Nat} {x : Blk},lookB h b = some x → (b,x) ∈ h
  | (j,z) :: r,b,x,hl => by
    simp only [lookB] at hl
    split at hl
    · rename_i e;subst e;cases hl;simp
    · exact List.mem_cons_of_mem _ (look_mem hl)
theorem kn_spec {h h' : Hp} (hk : kn h h' = true) {b : Nat} {x : Blk} (hl : lookB h b = some x) : (lookB h' b).isSome = true:=List.all_eq_true.1 hk _ (look_mem hl)
theorem mx_le {h : Hp} {n : Nat} (hn : ∀ b x,lookB h b = some x → b < n) : ∀ {h' : Hp},(∀ b x,(b,x) ∈ h' → (lookB h b).isSome = true) → mx h' ≤ n
  | [],_ => by simp [mx]
  | (i,y) :: r,hm => by
    obtain ⟨x,hx⟩:=Option.isSome_iff_exists.1 (hm i y (by simp))
    have h1:=hn i x hx
    have h2:=mx_le hn (h':=r) fun b x hb => hm b x (List.mem_cons_of_mem _ hb)
    simp only [mx]
    omega
theorem mem_look : ∀ {h : Hp} {b : Nat} {x : Blk},(b,x) ∈ h → (lookB h b).isSome = true
  | (j,z) :: r,b,x,hm => by
    simp only [lookB]
    split
    · rfl
    · rcases List.mem_cons.1 hm with e | hm
      · cases e;rename_i hn;exact (hn rfl).elim
      · exact mem_look hm
theorem HpOn.known {H H' : Hp} {φ φ' : Ph} (h : HpOn H φ H' φ') (hk : kn H H' = true) : HpExt H φ H' φ':=fun b => by
  cases hl : lookB H b with
  | none => exact ⟨fun ag sz d ty e => (by cases e),fun fz ver ag sz m f ty e => (by cases e)⟩
  | some x => rw [← hl];exact h b (kn_spec hk hl)
section
variable {B : Base} {s : St} {φ : Ph} {S : Nat → Prop} {a : Act} {w : World}
theorem Rel.other (hr : Rel B s φ S a w) {a' : Act} {w' : World} (ht : a'.tmps = a.tmps) (h1 : w'.os = w.os) (h2 : w'.tape = w.tape) (h3 : w'.output = w.output) (hsz : w.heap.size ≤ w'.heap.size)
    (hk : ∀ c,c < w.heap.size → (S c ∨ c < B.w0.heap.size ∨ ∃ b x t,lookB s.h b = some x ∧ φ b = some (c,t)) → w'.heap[c]? = w.heap[c]?) (hd : Marked B.n0 s.h φ S w' a'.defers) : Rel B s φ S a' w':=by
  have hkk : Kept S w w':=fun b hb => hk b (hr.slt b hb) (.inl hb)
  refine ⟨fun i => ht ▸ RepV.mono (HpExt.refl _ _) hkk (fun _ h => h) _ _ (hr.env i),ht ▸ hr.size,⟨fun b x hl => BlkAt.move (HpExt.refl _ _) hkk (fun _ h => h) rfl (fun c t hp => hk c (hr.plt b x c t hl hp) (.inr (.inr ⟨b,x,t,hl,hp⟩))) (fun _ _ _ h => h) (hr.hp.blk b x hl),hr.hp.inj⟩,hr.nx,fun b h => Nat.lt_of_lt_of_le (hr.slt b h) hsz,
    fun b x c t hl hp => Nat.lt_of_lt_of_le (hr.plt b x c t hl hp) hsz,hr.old,hr.s0,hr.s1,⟨h1.trans hr.below.os,h2.trans hr.below.tape,h3.trans hr.below.output,Nat.le_trans hr.below.size hsz,fun k hlt hG => (hk k (Nat.lt_of_lt_of_le hlt hr.below.size) (.inr (.inl hlt))).trans (hr.below.block k hlt hG)⟩,hr.ext,hr.nx0,hd⟩
def Base.sub (B : Base) (w : World) (S : Nat → Prop) (h : Hp) (φ : Ph) : Base:=⟨w,S,GB h φ,B.N,h,φ,0⟩
theorem Rel.inner (hr : Rel B s φ S a w) {w2 : World} (hs2 : w2.heap.size = w.heap.size) (hsame : ∀ c,(S c ∨ GB s.h φ c) → w2.heap[c]? = w.heap[c]?) {e : Nat → D} {a' : Act} (he : ∀ t,RepV s.h φ S w (e t) (a'.tmps.getD t undef)) (hs : a'.tmps.size = B.N) (hd : Marked 0 s.h φ S w2 a'.defers) : Rel (B.sub w2 S s.h φ) ⟨e,s.h,s.nx⟩ φ S a' w2:=by
  have hk2 : Kept S w w2:=fun c hc => hsame c (.inl hc)
  exact ⟨fun t => RepV.mono (HpExt.refl _ _) hk2 (fun _ h => h) _ _ (he t),hs,⟨fun b x hl => BlkAt.move (HpExt.refl _ _) hk2 (fun _ h => h) rfl (fun c t hp => hsame c (.inr ⟨b,x,t,hl,hp⟩)) (fun _ _ _ h => h) (hr.hp.blk b x hl),hr.hp.inj⟩,hr.nx,fun b hb => hs2 ▸ hr.slt b hb,fun b x c t hl hp => hs2 ▸ hr.plt b x c t hl hp,
    fun b x c t hl hp => .inr ⟨b,x,t,hl,hp⟩,fun _ h => h,fun _ h _ => .inl h,⟨rfl,rfl,rfl,Nat.le_refl _,fun _ _ _ => rfl⟩,HpOn.refl _ _,mx_le hr.nx fun b x hm => mem_look hm,hd⟩
theorem Rel.notS (hr : Rel B s φ S a w) (hz : noFz s.h = true) {c : Nat} (hg : GB s.h φ c) : ¬ S c:=by
  obtain ⟨b,x,t,hl,hp⟩:=hg
  have hb:=hr.hp.blk b x hl
  cases x with
  | var ag sz d ty =>
    obtain ⟨c',t',g1,g2,_⟩:=hb
    rw [hp] at g1
    cases g1
    exact g2
  | row fz ver ag sz n f tyr => exact (hb.2 c t hp).1 (noFz_spec hz _ _ _ _ _ _ _ _ hl)
theorem Marked.putObj {n0 : Nat} {h : Hp} {ds : List Deferred} (hm : Marked n0 h φ S w ds) {l : Nat} {r : Loop} (hl : w.heap[l]? = some (.loop r)) (o : Obj) : Marked n0 h φ S (w.putObj l o) ds:=by
  obtain ⟨Ds,e,hn,hD⟩:=hm
  refine ⟨Ds,e,hn,fun D hd => ?_⟩
  obtain ⟨h1,h2,h3,h4⟩:=hD D hd
  exact ⟨(World.putObj_heap_other (fun e => by subst e;rw [hl] at h1;cases h1)).trans h1,h2,h3,h4⟩
theorem Rel.putObj (hr : Rel B s φ S a w) {l : Nat} {r : Loop} (hl : w.heap[l]? = some (.loop r)) (o : Obj) (h1 : ¬ S l) (h2 : ¬ GB s.h φ l) (h3 : B.w0.heap.size ≤ l) : Rel B s φ S a (w.putObj l o):=by
  refine hr.other rfl rfl rfl rfl (by simp) (fun c hc h => World.putObj_heap_other fun e => ?_) (hr.def0.putObj hl o)
  subst e
  rcases h with h | h | ⟨b,x,t,hl,hp⟩
  · exact h1 h
  · omega
  · exact h2 ⟨b,x,t,hl,hp⟩
theorem Rel.stays {B0 : Base} {w0 : World} {h : Hp} {s1 : St} {φ1 : Ph} {S1 : Nat → Prop} {a1 : Act} {w1 : World} (h1 : Rel (B0.sub w0 S h φ) s1 φ1 S1 a1 w1) {l : Nat} (hl : l < w0.heap.size) (hS : ¬ S l) (hG : ¬ GB h φ l) : ¬ S1 l ∧ ¬ GB s1.h φ1 l ∧ w1.heap[l]? = w0.heap[l]?:=by
  refine ⟨fun hs => ?_,fun ⟨b,x,t,hb,hp⟩ => ?_,h1.below.block l hl hG⟩
  · rcases h1.s1 l hs hl with g | g
    · exact hS g
    · exact hG g
  · rcases h1.old b x l t hb hp with g | g
    · exact Nat.lt_irrefl _ (Nat.lt_of_lt_of_le hl g)
    · exact hG g
theorem var_one (hp : HpAt s.h φ S w) {b c t : Nat} {x : D} (hl : lookB s.h b = some (.var false 1 x)) (hpc : φ b = some (c,t)) : ∃ y,w.cell? ⟨c,0,none⟩ = some y ∧ RepV s.h φ S w x y:=by
  obtain ⟨c2,t2,g1,g2,y,vs,ty,lo,hi,g3,g4,g5,g6,g7⟩:=hp.blk b _ hl
  rw [hpc] at g1
  cases g1
  simp only [Cells,Bool.false_eq_true,if_false] at g6
  subst g6
  have:=At.of_heap g3 g5.2 0 y rfl
  exact ⟨y,by simpa using this.1,g7.1⟩
theorem Frs.spec {h h' : Hp} {nx nx' : Nat} (hf : Frs h nx h' nx') {b : Nat} (hb : (lookB h' b).isSome = true) : (lookB h b).isSome = true ∨ nx ≤ b:=by
  obtain ⟨x,hx⟩:=Option.isSome_iff_exists.1 hb
  have h2:=List.all_eq_true.1 hf.1 _ (look_mem hx)
  simpa only [Bool.or_eq_true,decide_eq_true_eq] using h2
theorem Frs.trans {h h' h'' : Hp} {nx nx' nx'' : Nat} (hf : Frs h nx h' nx') (hf' : Frs h' nx' h'' nx'') : Frs h nx h'' nx'':=by
  refine ⟨List.all_eq_true.2 fun p hp => ?_,Nat.le_trans hf.2 hf'.2⟩
  simp only [Bool.or_eq_true,decide_eq_true_eq]
  rcases hf'.spec (mem_look (x:=p.2) hp) with h | h
  · exact hf.spec h
  · exact .inr (Nat.le_trans hf.2 h)
theorem Rel.up (hr : Rel B s φ S a w) (hz : noFz s.h = true) {s1 : St} {φ1 : Ph} {S1 : Nat → Prop} {a1 : Act} {w0 w1 w2 : World} (hf : Frs s.h s.nx s1.h s1.nx) (h1 : Rel (B.sub w0 S s.h φ) s1 φ1 S1 a1 w1) (h0 : w0.heap.size = w.heap.size) (hs : w2.heap.size = w1.heap.size)
    (ho : w2.os = w.os) (ht : w2.tape = w.tape) (hout : w2.output = w.output) (hkeep : ∀ c,c < w.heap.size → ¬ GB s.h φ c → w2.heap[c]? = w.heap[c]?) (hsame : ∀ c,(S1 c ∨ GB s1.h φ1 c) → w2.heap[c]? = w1.heap[c]?)
    {e : Nat → D} (he : ∀ i,RepV s1.h φ1 S1 w2 (e i) (a.tmps.getD i undef)) : Rel B ⟨e,s1.h,s1.nx⟩ φ1 S1 a w2:=by
  have gb : ∀ c,GB s.h φ c → B.w0.heap.size ≤ c ∨ B.G c:=fun c ⟨b,x,t,hl,hp⟩ => hr.old b x c t hl hp
  have hsz : w.heap.size ≤ w1.heap.size:=h0 ▸ h1.below.size
  have hk2 : Kept S1 w1 w2:=fun c hc => hsame c (.inl hc)
  refine ⟨he,hr.size,⟨fun b x hl => BlkAt.move (HpExt.refl _ _) hk2 (fun _ h => h) rfl (fun c t hp => hsame c (.inr ⟨b,x,t,hl,hp⟩)) (fun _ _ _ h => h) (h1.hp.blk b x hl),h1.hp.inj⟩,h1.nx,fun b hb => hs ▸ h1.slt b hb,fun b x c t hl hp => hs ▸ h1.plt b x c t hl hp,fun b x c t hl hp => ?_,fun b hb => h1.s0 b (hr.s0 b hb),fun b hb hlt => ?_, ?_, ?_, ?_, ?_⟩
  · rcases h1.old b x c t hl hp with g | g
    · exact .inl (Nat.le_trans hr.below.size (h0 ▸ g))
    · exact gb c g
  · rcases h1.s1 b hb (h0 ▸ Nat.lt_of_lt_of_le hlt hr.below.size) with g | g
    · exact hr.s1 b g hlt
    · rcases gb b g with g | g
      · omega
      · exact .inr g
  · refine ⟨ho.trans hr.below.os,ht.trans hr.below.tape,hout.trans hr.below.output,hs ▸ Nat.le_trans hr.below.size hsz,fun k hk hG => ?_⟩
    refine (hkeep k (Nat.lt_of_lt_of_le hk hr.below.size) fun g => ?_).trans (hr.below.block k hk hG)
    rcases gb k g with g | g
    · omega
    · exact hG g
  · intro b hb
    have hcase : (lookB B.h0 b).isSome = true → (lookB s.h b).isSome = true:=fun h0' => by
      rcases hf.spec hb with g | g
      · exact g
      · obtain ⟨y,hl0⟩:=Option.isSome_iff_exists.1 h0'
        have g1:=mx_lt hl0
        have g2:=hr.nx0
        omega
    have e1:=h1.ext b hb
    refine ⟨fun ag sz d ty hl => ?_,fun fz ver ag sz m f ty hl => ?_⟩
    · obtain ⟨⟨d1,g1⟩,g2⟩:=(hr.ext b (hcase (by rw [hl];rfl))).1 ag sz d ty hl
      obtain ⟨⟨d2,g3⟩,g4⟩:=e1.1 ag sz d1 ty g1
      exact ⟨⟨d2,g3⟩,g4.trans g2⟩
    · obtain ⟨fz1,ver1,m1,f1,ty1,g1,v1,p1⟩:=(hr.ext b (hcase (by rw [hl];rfl))).2 fz ver ag sz m f ty hl
      obtain ⟨fz2,ver2,m2,f2,ty2,g2,v2,p2⟩:=e1.2 _ _ _ _ _ _ _ g1
      refine ⟨fz2,ver2,m2,f2,ty2,g2,Nat.le_trans v1 v2,fun e3 => ?_⟩
      have a1:=p1 (by omega)
      have a2:=p2 (by omega)
      exact ⟨Nat.le_trans a1.1 a2.1,a2.2.trans a1.2⟩
  · exact Nat.le_trans hr.nx0 hf.2
  · refine hr.def0.move fun D hD hn hS ho => ?_
    have hnG : ¬ GB s.h φ D:=fun ⟨b,x,t,hl,hp⟩ => ho b x D t hl hp rfl
    refine ⟨hkeep D hD hnG,fun h => ?_,fun b x c t hl hp e => ?_⟩
    · rcases h1.s1 D h (h0 ▸ hD) with g | g
      · exact hS g
      · exact hnG g
    · subst e
      rcases h1.old b x c t hl hp with g | g
      · exact Nat.lt_irrefl _ (Nat.lt_of_lt_of_le hD (h0 ▸ g))
      · exact hnG g
theorem Rel.keepE (hr : Rel B s φ S a w) (hz : noFz s.h = true) {s1 : St} {φ1 : Ph} {S1 : Nat → Prop} {a1 : Act} {w0 w1 w2 : World} (hk : kn s.h s1.h = true) (h1 : Rel (B.sub w0 S s.h φ) s1 φ1 S1 a1 w1) (hkeep : ∀ c,c < w.heap.size → ¬ GB s.h φ c → w2.heap[c]? = w.heap[c]?) :
    ∀ i,RepV s1.h φ1 S1 w2 (s.e i) (a.tmps.getD i undef):=fun i =>
  RepV.mono (h1.ext.known hk) (fun c hc => hkeep c (hr.slt c hc) fun hg => hr.notS hz hg hc) (fun b hb => h1.s0 b hb) _ _ (hr.env i)
end
def BWC (P : Program) (f : FuncId) : Prop:=fnOk P f = true ∧ ∀ (l bx N : Nat) (J : Nat → World → Prop) (Jx : World → Prop) (W : World),N ≤ 9223372036854775807 →
  (∃ a cap,W.cell? ⟨bx,0,none⟩ = some (.slice a N cap)) →
  (∀ k W,k < N → J (k + 1) W → ∃ b o n cap x,W.cell? ⟨bx,0,none⟩ = some (.slice (some ⟨b,o,none⟩) n cap) ∧ k < n ∧ W.cell? ⟨b,o + k,none⟩ = some x ∧ x.oneCell' = true ∧
    YieldAt (WF none) 0 P l #[.int .i64 k,x] W fun e W' => (e = .returned (.bool true) ∧ J k W') ∨ (e = .returned (.bool false) ∧ Jx W')) →
  J N W → CallsIn (WF none) 0 P f #[.func (.yield l) #[] #[], .pointer (some ⟨bx,0,none⟩)] W fun e W' => (∃ v,e = .returned v) ∧ (J 0 W' ∨ Jx W')
def slen (h : Hp) : D → Option Nat
  | .ro _ _ n _ => some n
  | .sl b ver _ n => match lookB h b with
    | some (.row _ ver' _ _ _ _ _) => if ver = ver' then some n else none
    | _ => none
  | .vs _ _ _ n => some n
  | .nils => some 0
  | _ => none
def elt (h : Hp) (x : D) (k : Nat) : Option D:=match x with
  | .ro false sz n f => if sz = 1 ∧ k < n then some (f k) else none
  | .sl b ver off n => match lookB h b with
    | some (.row _ ver' false sz _ f ty) => if ver = ver' ∧ sz = 1 ∧ k < n then some (f (off + k)) else none
    | _ => none
  | .vs b off esz n => match lookB h b with
    | some (.var ag sz d ty) => if esz = 1 ∧ k < n then (cellsOf ag d).bind fun cs => cs[off + k]? else none
    | _ => none
  | _ => none
section
variable {H : Hp} {φ : Ph} {S : Nat → Prop} {w : World}
theorem slen_sound {x : D} {v : Value} {n : Nat} (hx : RepV H φ S w x v) (hs : slen H x = some n) : ∃ a cap,v = .slice a n cap:=by
  unfold slen at hs
  split at hs
  · cases hs
    simp only [RepV,Rep0] at hx
    obtain ⟨a,cap,e,_⟩:=hx
    exact ⟨a,cap,e⟩
  · split at hs
    · rename_i hl
      split at hs
      · rename_i e
        cases hs
        subst e
        simp only [RepV] at hx
        obtain ⟨fz',ver',ag',sz',m',f',ty',hl',hv,hx⟩:=hx
        rw [hl] at hl'
        cases hl'
        obtain ⟨_,a,cap,e,_⟩:=hx rfl
        exact ⟨a,cap,e⟩
      · cases hs
    · cases hs
  · cases hs
    simp only [RepV] at hx
    obtain ⟨ag,sz,d,ty,c,t,a,cap,_,_,e,_⟩:=hx
    exact ⟨a,cap,e⟩
  · cases hs
    simp only [RepV,Rep0] at hx
    exact ⟨_,_,hx⟩
  · cases hs
theorem cell_of {c : Nat} {vs : List Value} {e : TypeId} {fr : Nat × Nat} (h : w.heap[c]? = some (.cells ⟨vs⟩ e fr)) (h1 : ∀ y ∈ vs,y.oneCell' = true) {j : Nat} {y : Value} (hj : vs[j]? = some y) : w.cell? ⟨c,j,none⟩ = some y ∧ y.oneCell' = true:=by
  have:=At.of_heap h h1 j y hj
  simpa using this
theorem elt_sound (hp : HpAt H φ S w) {x : D} {v : Value} {k : Nat} {d : D} (hx : RepV H φ S w x v) (he : elt H x k = some d) :
    ∃ b o n cap y,v = .slice (some ⟨b,o,none⟩) n cap ∧ k < n ∧ w.cell? ⟨b,o + k,none⟩ = some y ∧ y.oneCell' = true ∧ RepV H φ S w d y:=by
  unfold elt at he
  split at he
  · rename_i sz n f
    split at he
    · rename_i hc
      obtain ⟨rfl,hk⟩:=hc
      cases he
      simp only [RepV,Rep0] at hx
      obtain ⟨a,cap,e,hn,hcap,hx⟩:=hx
      obtain ⟨b,o,rfl,hb,hel⟩:=hx (by omega)
      obtain ⟨y,vs,g1,g2,g3,g4⟩:=hel k hk
      simp only [Cells,Bool.false_eq_true,if_false] at g3
      subst g3
      have:=g2 0 y rfl
      simp only [Nat.mul_one,Nat.add_zero] at this
      exact ⟨b,o,n,cap,y,e,hk,this.1,this.2,Rep0.toV _ _ g4⟩
    · cases he
  · rename_i b ver off n
    split at he
    · rename_i fz ver' sz m f hl
      split at he
      · rename_i hc
        obtain ⟨rfl,rfl,hk⟩:=hc
        cases he
        simp only [RepV] at hx
        obtain ⟨fz',ver',ag',sz',m',f',ty',hl',hv,hx⟩:=hx
        rw [hl] at hl'
        cases hl'
        obtain ⟨hm,a,cap,e,hn,ha0,ha1⟩:=hx rfl
        have hph : φ b ≠ none:=fun e => by have:=(ha0 e).2;omega
        obtain ⟨⟨c,tot⟩,hph⟩:=Option.ne_none_iff_exists'.1 hph
        obtain ⟨g1,g2,g3⟩:=ha1 c tot hph
        obtain ⟨_,_,k3,k4,vs,ty,lo,hi,k5,k6,k7,k8,_⟩:=(hp.blk b _ hl).2 c tot hph
        obtain ⟨y,c1,c2⟩:=k8 (off + k) (by omega)
        simp only [Cells,Bool.false_eq_true,if_false,Nat.mul_one] at c1
        have hlt : off + k < vs.length:=by rw [k6];omega
        rw [List.drop_eq_getElem_cons hlt] at c1
        simp only [List.take_succ_cons,List.take_zero,List.cons.injEq,and_true] at c1
        have:=cell_of k5 k7.2 (j:=off + k) (y:=y) (by rw [List.getElem?_eq_getElem hlt,c1])
        refine ⟨c,off,n,cap,y, ?_,hk,this.1,this.2,Rep0.toV _ _ c2⟩
        rw [e,g3 (by omega),Nat.mul_one]
      · cases he
    · cases he
  · rename_i b off esz n
    split at he
    · rename_i ag sz d0 ty0 hl
      split at he
      · rename_i hc
        obtain ⟨rfl,hk⟩:=hc
        cases hcs : cellsOf ag d0 with
        | none => rw [hcs] at he;cases he
        | some cs =>
          rw [hcs] at he
          simp only [Option.bind_some] at he
          simp only [RepV] at hx
          obtain ⟨ag',sz',d',_,c,t,a,cap,hl',hp',e,hn,ha,hs⟩:=hx
          rw [hl] at hl'
          cases hl'
          obtain ⟨c2,t2,g1,g2,y,vs,ty,lo,hi,g3,g4,g5,g6,g7⟩:=hp.blk b _ hl
          rw [hp'] at g1
          cases g1
          have hcr:=cells_rep g6 g7.1 hcs
          obtain ⟨z,hz1,hz2⟩:=hcr.get _ he
          have:=cell_of g3 g5.2 hz1
          refine ⟨c,off,n,cap,z, ?_,hk,this.1,this.2,hz2⟩
          rw [e,ha (by omega)]
      · cases he
    · cases he
  · cases he
end
def thn (K : St → Prop) (Q : Exit → St → Prop) : Exit → St → Prop
  | .normal,s => K s
  | e,s => Q e s
def blk (id : Nat) (Q : Exit → St → Prop) : Exit → St → Prop
  | .exit i,s => if i = id then Q .normal s else Q (.exit i) s
  | e,s => Q e s
def cnd (d : D) (A B : Prop) : Prop:=match d with
  | .bool b => (b = true → A) ∧ (b = false → B)
  | _ => False
inductive AL (F : (Exit → St → Prop) → St → Prop) (Q : Exit → St → Prop) : St → Prop where
  | inv (I : Nat → St → Prop) (n : Nat) (s s' : St) (h0 : Wk s.nx s s') (h : I n s') (round : ∀ n t,I n t → ∃ K : St → Prop,(∀ s',K s' → ∃ m,m < n ∧ ∃ s'',Wk s.nx s' s'' ∧ I m s'') ∧ F (thn K Q) t) : AL F Q s
  | unroll (R : St → Prop) (s : St) (h : F (thn R Q) s) (hR : ∀ s',R s' → AL F Q s') : AL F Q s
def BGo (n0 : Nat) (I : Nat → St → Prop) (k : Nat) (t s : St) : Prop:=Onw t.h t.nx s.h s.nx ∧ ∃ s',Wk n0 ⟨t.e,s.h,s.nx⟩ s' ∧ I k s'
def rnd (n0 : Nat) (I : Nat → St → Prop) (Q : Exit → St → Prop) (t : St) (k : Nat) : Exit → St → Prop
  | .normal,s => BGo n0 I k t s
  | .ret,s => Onw t.h t.nx s.h s.nx ∧ Q .ret ⟨t.e,s.h,s.nx⟩
  | .exit id,s => Onw t.h t.nx s.h s.nx ∧ Q (.exit id) ⟨t.e,s.h,s.nx⟩
  | _,_ => False
def bmid (n0 : Nat) (I : Nat → St → Prop) (Q : Exit → St → Prop) (W : (Exit → St → Prop) → St → Prop) (t : St) (k : Nat) (s1 : St) : Prop:=
  noFz s1.h = true ∧ Onw t.h t.nx s1.h s1.nx ∧ W (rnd n0 I Q ⟨t.e,s1.h,s1.nx⟩ k) s1
def noQ : Exit → St → Prop:=fun _ _ => False
def AB (E : Ctx) (g : Operand) (A W : (Exit → St → Prop) → St → Prop) (Q : Exit → St → Prop) (p q : Nat) (s : St) : Prop:=∃ s0,Wk s.nx s s0 ∧ noFz s0.h = true ∧ ∃ f bx,ev E s0 g = .fn f [.ad bx 0] ∧ BWC E.P f ∧
  ∃ x n,lookB s0.h bx = some (.var false 1 x) ∧ slen s0.h x = some n ∧ n ≤ 9223372036854775807 ∧ ∃ (I : Nat → St → Prop),I n s0 ∧ (∀ t,I 0 t → Q .normal t) ∧
      ∀ k t,I k t → Frs s0.h s0.nx t.h t.nx ∧ noFz t.h = true ∧ ∀ k',k' < n → k = k' + 1 → ∃ x d,lookB t.h bx = some (.var false 1 x) ∧ elt t.h x k' = some d ∧
        A (thn (bmid s0.nx I Q W t k') noQ) ⟨upd (upd t.e p (.int .i64 k')) q d,t.h,t.nx⟩
def noG : Nat → Bool:=fun _ => false
def AReg3 (E : Ctx) (ops : Array Oper) (draw : Bool) (K : St → Prop) (s : St) : Prop:=
  if (draw && !regOk E ops) = true then (if regOk (E.lim noG) ops = true then AR (E.lim noG) ops ops.toList K s else AReg E ops true K s) else AR E ops ops.toList K s
def AW (E : Ctx) : Code → (Exit → St → Prop) → St → Prop
  | .skip,Q,s => Q .normal s
  | .region _ ops draw,Q,s => AReg3 E ops draw (Q .normal) s
  | .seq a b,Q,s => AW E a (thn (AW E b Q) Q) s
  | .cond c a b,Q,s => cnd (ev E s c) (AW E a Q s) (AW E b Q s)
  | .block id b,Q,s => AW E b (blk id Q) s
  | .loop b,Q,s => AL (AW E b) Q s
  | .exit id,Q,s => Q (.exit id) s
  | .ret,Q,s => Q .ret s
  | .rangeFunc g ⟨[p,q]⟩ a b,Q,s => AB E g (AW E a) (AW E b) Q p q s
  | _,_,_ => False
def plainC : Code → Bool
  | .rangeFunc .. => false
  | .seq a b | .cond _ a b => plainC a && plainC b
  | .block _ b | .loop b => plainC b
  | _ => true
def codeOk (N : Nat) : Code → Bool
  | .region _ ops _ => ops.all (dstOk N) && backOk ops
  | .seq a b | .cond _ a b => codeOk N a && codeOk N b
  | .block _ b | .loop b => codeOk N b
  | .rangeFunc _ ⟨[p,q]⟩ a b => codeOk N a && codeOk N b && plainC a && plainC b && decide (p < N) && decide (q < N) && decide (p ≠ q)
  | _ => true
section
variable {E : Ctx} {B : Base}
def Key (r : Option Nat) (P : Program) (b : Code) (Q : Exit → Act → World → Prop) (a : Act) (w : World) : Prop:=
  ∀ (fb : Frame) (k : List Item) (cs : List Frame),fb.roundOf = r → ∃ e a' w',Q e a' w' ∧ ArrivesIn (Machine.fenced P (WF r)) P (lone (fb.atR a (.code b :: .inLoop b :: k)) cs w) fb k cs e a' w'
theorem Key.step {r : Option Nat} {P : Program} {b : Code} {Q : Exit → Act → World → Prop} {a : Act} {w : World} {K : Act → World → Prop} (h : b.wpIn (WF r) 0 P (Exit.then K Q) a w) (hK : ∀ a w,K a w → Key r P b Q a w) : Key r P b Q a w:=by
  intro fb k cs hro
  obtain ⟨e,a₁,w₁,hq,harr⟩:=h fb (.inLoop b :: k) cs hro trivial (WF.room _)
  cases e with
  | normal =>
    obtain ⟨e₂,a₂,w₂,hq₂,harr₂⟩:=hK _ _ hq fb k cs hro
    exact ⟨e₂,a₂,w₂,hq₂, .of_steps (StepsIn.trans harr (.one (fenced_calm (n:=0) trivial (WF.room _) rfl) stepR_inLoop)) harr₂⟩
  | exit id => exact ⟨_,a₁,w₁,hq, .pass (x:=.inLoop b) rfl (fun _ _ => .inl (by simp)) harr⟩
  | goto l => exact ⟨_,a₁,w₁,hq, .pass (x:=.inLoop b) rfl (fun _ _ => .inl (by simp)) harr⟩
  | ret => exact ⟨_,a₁,w₁,hq, .pass (x:=.inLoop b) rfl (fun _ _ => .inl (by simp)) harr⟩
  | panic ch => exact ⟨_,a₁,w₁,hq, .pass (x:=.inLoop b) rfl (fun _ _ => .inl (by simp)) harr⟩
  | outgrown => exact ⟨_,a₁,w₁,hq, .pass (x:=.inLoop b) rfl (fun _ _ => .inl (by simp)) harr⟩
theorem AW_sound : ∀ (c : Code) (B : Base) (hB : BOK E B) (r : Option Nat) (hp : (r = none ∧ B.n0 ≤ B.w0.heap.size) ∨ plainC c = true) (Q : Exit → St → Prop) (Q' : Exit → Act → World → Prop) (s : St) (φ : Ph) (S : Nat → Prop) (a : Act) (w : World),codeOk B.N c = true →
    (∀ e s φ S a w,Rel B s φ S a w → Q e s → Q' e a w) → Rel B s φ S a w → AW E c Q s → c.wpIn (WF r) 0 E.P Q' a w
  | .skip,B,hB,r,hp,Q,Q',s,φ,S,a,w,ho,hQ,hr,h => wpIn_skip (hQ _ _ _ _ _ _ hr h)
  | .region id ops draw,B,hB,r,hp,Q,Q',s,φ,S,a,w,ho,hQ,hr,h => by
    simp only [codeOk,Bool.and_eq_true] at ho
    refine AReg_sound (K:=Q .normal) hB ho.1 ho.2 (fun s' φ' S' a' w' hr' h' => hQ _ _ _ _ _ _ hr' h') hr ?_
    simp only [AW,AReg3] at h
    cases draw with
    | false => exact AReg_text.2 (by simpa using h)
    | true =>
      cases hk : regOk E ops with
      | true => rw [hk] at h;exact AReg_give hk (by simpa using h)
      | false =>
        rw [hk] at h
        simp only [Bool.not_false,Bool.and_true,if_true] at h
        split at h
        · rename_i hl;exact AReg_good (gs:=noG) (fun g hg => by cases hg) hl h
        · exact h
  | .seq x y,B,hB,r,hp,Q,Q',s,φ,S,a,w,ho,hQ,hr,h => by
    simp only [codeOk,plainC,Bool.and_eq_true] at ho hp
    refine wpIn_seq (AW_sound x B hB r (hp.imp_right (·.1)) _ _ s φ S a w ho.1 (fun e s φ S a w hr h => ?_) hr h)
    cases e <;> first | exact AW_sound y B hB r (hp.imp_right (·.2)) Q Q' s φ S a w ho.2 hQ hr h | exact hQ _ _ _ _ _ _ hr h
  | .cond c x y,B,hB,r,hp,Q,Q',s,φ,S,a,w,ho,hQ,hr,h => by
    simp only [codeOk,plainC,Bool.and_eq_true] at ho hp
    simp only [AW] at h
    unfold cnd at h
    split at h
    · rename_i b hb
      have hev:=hr.ev (hB.gok hr) c
      rw [hb] at hev
      simp only [RepV,Rep0] at hev
      refine wpIn_cond hev ?_
      cases b
      · exact AW_sound y B hB r (hp.imp_right (·.2)) Q Q' s φ S a w ho.2 hQ hr (h.2 rfl)
      · exact AW_sound x B hB r (hp.imp_right (·.1)) Q Q' s φ S a w ho.1 hQ hr (h.1 rfl)
    · exact h.elim
  | .block id b,B,hB,r,hp,Q,Q',s,φ,S,a,w,ho,hQ,hr,h => by
    refine wpIn_block (AW_sound b B hB r hp _ _ s φ S a w ho (fun e s φ S a w hr h => ?_) hr h)
    cases e with
    | exit i =>
      simp only [blk,Exit.inBlock] at h ⊢
      split at h
      · rename_i e;rw [if_pos e];exact hQ _ _ _ _ _ _ hr h
      · rename_i e;rw [if_neg e];exact hQ _ _ _ _ _ _ hr h
    | _ => exact hQ _ _ _ _ _ _ hr h
  | .loop b,B,hB,r,hp,Q,Q',s,φ,S,a,w,ho,hQ,hr,h => by
    simp only [codeOk] at ho
    simp only [AW] at h
    have body:=fun Q Q' s φ S a w hQ hr h => AW_sound b B hB r hp Q Q' s φ S a w ho hQ hr h
    have key : ∀ {s},AL (AW E b) Q s → ∀ φ S a w,Rel B s φ S a w → Key r E.P b Q' a w:=by
      clear h hr
      intro s h
      induction h with
      | inv I n s s' h0 hI round =>
        intro φ S a w hr
        have hnx:=hr.nx0
        obtain ⟨φ',S',hr'⟩:=h0 _ _ _ _ _ hnx hr
        have again : ∀ n s,I n s → ∀ φ S a w,Rel B s φ S a w → Key r E.P b Q' a w:=by
          intro n
          induction n using Nat.strongRecOn with
          | _ n ih =>
            intro s hI φ S a w hr
            obtain ⟨K,hK,hrd⟩:=round n s hI
            refine Key.step (K:=fun a w => Key r E.P b Q' a w) (body _ _ s φ S a w (fun e s φ S a w hr h => ?_) hr hrd) fun a w h => h
            cases e <;> first | exact hQ _ _ _ _ _ _ hr h | skip
            obtain ⟨m,hm,s'',h1,h2⟩:=hK _ h
            obtain ⟨φ'',S'',hr''⟩:=h1 _ _ _ _ _ hnx hr
            exact ih m hm s'' h2 _ _ _ _ hr''
        exact again n s' hI _ _ _ _ hr'
      | unroll R s h hR ih =>
        intro φ S a w hr
        refine Key.step (K:=fun a w => Key r E.P b Q' a w) (body _ _ s φ S a w (fun e s φ S a w hr h => ?_) hr h) fun a w h => h
        cases e <;> first | exact ih s h _ _ _ _ hr | exact hQ _ _ _ _ _ _ hr h
    intro fb k cs hro _ _
    obtain ⟨e,a',w',hq,harr⟩:=key h φ S a w hr fb k cs hro
    exact ⟨e,a',w',hq, .of_steps (.one (fenced_calm (n:=0) trivial (WF.room _) rfl) stepR_loop) harr⟩
  | .scope ..,_,_,_,_,_,_,_,_,_,_,_,_,_,_,h | .label ..,_,_,_,_,_,_,_,_,_,_,_,_,_,_,h | .goto ..,_,_,_,_,_,_,_,_,_,_,_,_,_,_,h | .refuse ..,_,_,_,_,_,_,_,_,_,_,_,_,_,_,h => by simp only [AW] at h
  | .exit id,B,hB,r,hp,Q,Q',s,φ,S,a,w,ho,hQ,hr,h => wpIn_exit (hQ _ _ _ _ _ _ hr h)
  | .ret,B,hB,r,hp,Q,Q',s,φ,S,a,w,ho,hQ,hr,h => wpIn_ret (hQ _ _ _ _ _ _ hr h)
  | .rangeFunc g ⟨ps⟩ x y,B,hB,r,hp,Q,Q',s,φ,S,a,w,ho,hQ,hr,h => by
    match ps,h,ho with
    | [p,q],h,ho =>
      simp only [AW] at h
      simp only [codeOk,Bool.and_eq_true,decide_eq_true_eq] at ho
      obtain ⟨⟨⟨⟨⟨⟨hox,hoy⟩,hpx⟩,hpy⟩,hpN⟩,hqN⟩,hpq⟩:=ho
      obtain ⟨hrn,hn0⟩:=hp.resolve_right (by simp [plainC])
      subst hrn
      obtain ⟨s0,hwk,hz0,f,bx,hg0,hBW,x0,n,hl0,hsl,hn,I,hI0,hdone,hround⟩:=h
      obtain ⟨φ0,S0,hr0⟩:=hwk B φ S a w hr.nx0 hr
      clear hr
      have hev:=hr0.ev (hB.gok hr0) g
      rw [hg0] at hev
      simp only [RepV,RepVs] at hev
      obtain ⟨_,hge,_,_,rfl,⟨ag,sz,dd,_,c,t,hl0',hpc,rfl⟩,rfl⟩:=hev
      rw [hl0] at hl0'
      cases hl0'
      refine wpIn_rangeFunc ?_
      intro fn hfn
      obtain ⟨rec,hrec⟩ : ∃ rec : LoopState → Option Code → Loop,rec = fun st pe => { state:=st,pending:=pe,fn,tmps:=a.tmps,params:=#[p,q],assign:=x,body:=y,defers:=w.heap.size }:=⟨_,rfl⟩
      obtain ⟨W1,hW1⟩ : ∃ W1,(w.alloc (.deferred (some []))).alloc (.loop (rec .ready none)) = W1:=⟨_,rfl⟩
      obtain ⟨l,hl⟩ : ∃ l,l = w.heap.size + 1:=⟨_,rfl⟩
      have hsz : W1.heap.size = w.heap.size + 2:=by rw [← hW1];simp
      have hL1 : W1.heap[l]? = some (.loop (rec .ready none)):=by
        rw [← hW1,hl];have:=World.alloc_heap_new (w.alloc (.deferred (some []))) (.loop (rec .ready none));rwa [World.size_alloc] at this
      have hK1 : W1.heap[w.heap.size]? = some (.deferred (some [])):=by
        rw [← hW1];exact (Below.heap_alloc _ _ _ (by simp)).trans (World.alloc_heap_new w _)
      have hold : ∀ k,k < w.heap.size → W1.heap[k]? = w.heap[k]?:=fun k hk => by
        rw [← hW1];exact (Below.heap_alloc _ _ _ (by simp;omega)).trans (Below.heap_alloc _ _ _ hk)
      obtain ⟨a1,ha1⟩ : ∃ a1 : Act,a1 = { a with defers:={ target:=.collected w.heap.size,args:=#[] } :: a.defers }:=⟨_,rfl⟩
      obtain ⟨a0,ha0⟩ : ∃ a0 : Act,a0 = { a with defers:=[] }:=⟨_,rfl⟩
      have hr1 : Rel B s0 φ0 S0 a1 W1:=by
        refine hr0.other (by rw [ha1]) (by rw [← hW1];rfl) (by rw [← hW1];rfl) (by rw [← hW1];rfl) (by omega) (fun k hk _ => hold k hk) ?_
        obtain ⟨Ds,e,hnd,hD⟩:=hr0.def0
        refine ⟨w.heap.size :: Ds,by rw [ha1];simp [e],List.nodup_cons.2 ⟨fun hm => ?_,hnd⟩,fun D hm => ?_⟩
        · have:=(Array.getElem?_eq_some_iff.1 (hD _ hm).1).1
          omega
        · rcases List.mem_cons.1 hm with rfl | hm
          · exact ⟨hK1,Nat.le_trans hn0 hr0.below.size,fun h => by have:=hr0.slt _ h;omega,fun b x c t l p e => by have:=hr0.plt b x c t l p;omega⟩
          · obtain ⟨h1,h2,h3,h4⟩:=hD D hm
            exact ⟨(hold D (Array.getElem?_eq_some_iff.1 h1).1).trans h1,h2,h3,h4⟩
      have hlS0 : ¬ S0 l:=fun h => by have:=hr0.slt _ h;omega
      have hlG0 : ¬ GB s0.h φ0 l:=fun ⟨b,x,t,h1,h2⟩ => by have:=hr0.plt b x l t h1 h2;omega
      have hrI : Rel (B.sub W1 S0 s0.h φ0) s0 φ0 S0 a0 W1:=hr1.inner rfl (fun _ _ => rfl) (e:=s0.e) (a':=a0) (by rw [ha0];have:=hr1.env;rw [ha1] at this;exact this) (by rw [ha0];exact hr0.size) (by rw [ha0];exact Marked.nil _ _ _ _ _)
      have hB1 : BOK E (B.sub W1 S0 s0.h φ0):=⟨hB.gok hr1,fun b hb => ⟨hr1.slt b hb,fun hg => hr1.notS hz0 hg hb⟩⟩
      have upB : ∀ {t : St} {φ' : Ph} {S' : Nat → Prop} {W : World},Frs s0.h s0.nx t.h t.nx → Rel (B.sub W1 S0 s0.h φ0) t φ' S' a0 W → Rel B t φ' S' a1 W:=fun hfr hrt =>
        hr1.up hz0 hfr hrt rfl rfl hrt.below.os hrt.below.tape hrt.below.output (fun c hc hg => hrt.below.block c hc hg) (fun _ _ => rfl) (by have:=hrt.env;rw [ha0] at this;rw [ha1];exact this)
      refine ⟨l,[{ target:=.collected w.heap.size,args:=#[] }],W1,{ target:=.fn (.func f) #[.pointer (some ⟨c,0,none⟩)],args:=#[.func (.yield l) #[] #[]] },W1,f,#[.func (.yield l) #[] #[], .pointer (some ⟨c,0,none⟩)],W1, ?_, ?_, ?_, ?_,(fun h => by cases h), ?_⟩
      · rw [← hW1,hrec,hl];exact run_enterLoop_outer _ _ _ _ _
      · simp only [resolve,hge]
        simp [go_sem]
      · intro f' hf';trivial
      · have:=run_callFunc hBW.1 #[.func (.yield l) #[] #[], .pointer (some ⟨c,0,none⟩)] W1
        simpa [invoke,go_sem] using this
      obtain ⟨y0,hc0,hv0⟩:=var_one hr1.hp hl0 hpc
      obtain ⟨ad0,cap0,rfl⟩:=slen_sound hv0 hsl
      refine (hBW.2 l c n (fun k W => ∃ t φ' S',I k t ∧ Rel (B.sub W1 S0 s0.h φ0) t φ' S' a0 W)
        (fun W => ∃ cc t φ' S',(∀ w4,Rel B t φ' S' a1 w4 → cc.wpIn (WF none) 0 E.P Q' a1 w4) ∧ Rel B t φ' S' a1 W ∧ W.heap[l]? = some (.loop (rec .done (some cc))) ∧ ¬ S' l ∧ ¬ GB t.h φ' l)
        W1 hn ⟨ad0,cap0,hc0⟩ ?_ ⟨s0,φ0,S0,hI0,hrI⟩).mono ?_
      · rintro k W hk ⟨t,φ',S',hIk,hrt⟩
        obtain ⟨hfr,hzt,hnext⟩:=hround (k + 1) t hIk
        obtain ⟨x',d,hlx,helt,hA⟩:=hnext k hk rfl
        have hpc' : φ' bx = some (c,_):=((hrt.ext bx (by rw [hlx];rfl)).1 _ _ _ _ hl0).2.trans hpc
        obtain ⟨v1,hcv,hvv⟩:=var_one hrt.hp hlx hpc'
        obtain ⟨b,o,n',cap,z,rfl,hk',hz1,hz2,hz3⟩:=elt_sound hrt.hp hvv helt
        refine ⟨b,o,n',cap,z,hcv,hk',hz1,hz2, ?_⟩
        have hWl : l < W.heap.size:=Nat.lt_of_lt_of_le (by omega : l < W1.heap.size) hrt.below.size
        obtain ⟨hlS',hlG',hrdy⟩:=hrt.stays (l:=l) (by omega) hlS0 hlG0
        have hrdy : W.heap[l]? = some (.loop (rec .ready none)):=hrdy.trans hL1
        have hy:=run_yield (P:=E.P) (args:=#[.int .i64 k,z]) hrdy (by rw [hrec];rfl)
        rw [hrec] at hy
        refine ⟨fn,_,x,y,hy,roundIn_of_wpIn hfn ?_⟩
        have hrp:=(hrt.put (d:=.int .i64 k) (v:=.int .i64 k) (by simp [RepV,Rep0]) (dst:=some p) (fun t e => by cases e;exact hpN)).put (d:=d) (v:=z) hz3 (dst:=some q) (fun t e => by cases e;exact hqN)
        have hB2 : BOK E ((B.sub W1 S0 s0.h φ0).sub W S' t.h φ'):=⟨hB1.gok hrt,fun b hb => ⟨hrt.slt b hb,fun hg => hrt.notS hzt hg hb⟩⟩
        have htm : (Array.zip #[p,q] #[Value.int .i64 k,z]).foldl (fun tmps (x : Tmp × Value) => tmps.setIfInBounds x.1 x.2) a.tmps = (a.tmps.setIfInBounds p (.int .i64 k)).setIfInBounds q z:=by
          simp
        have hrt2 : Rel ((B.sub W1 S0 s0.h φ0).sub W S' t.h φ') ⟨upd (upd t.e p (.int .i64 k)) q d,t.h,t.nx⟩ φ' S' { tmps:=(a.tmps.setIfInBounds p (.int .i64 k)).setIfInBounds q z,defers:=[] } W:=
          hrt.inner rfl (fun _ _ => rfl) (by have:=hrp.env;rw [ha0] at this;exact this) (by have:=hrp.size;rw [ha0] at this;exact this) (Marked.nil _ _ _ _ _)
        rw [← htm] at hrt2
        refine AW_sound x _ hB2 (some l) (.inr hpx) _ _ _ _ _ _ _ hox (fun e s1 φ1 S1 a1' w1 hr1' hq => ?_) hrt2 hA
        cases e <;> try exact hq.elim
        obtain ⟨hz1,hon,hW⟩:=hq
        obtain ⟨hlS1,hlG1,hw1⟩:=hr1'.stays (l:=l) hWl hlS' hlG'
        have hrdy1 : w1.heap[l]? = some (.loop (rec .ready none)):=hw1.trans hrdy
        have hRA : Rel (B.sub W1 S0 s0.h φ0) ⟨t.e,s1.h,s1.nx⟩ φ1 S1 a0 w1:=
          hrt.up hzt hon.2 hr1' rfl rfl hr1'.below.os hr1'.below.tape hr1'.below.output (fun c hc hg => hr1'.below.block c hc hg) (fun _ _ => rfl) (hrt.keepE hzt hon.1 hr1' fun c hc hg => hr1'.below.block c hc hg)
        have hwl1 : l < w1.heap.size:=(Array.getElem?_eq_some_iff.1 hrdy1).1
        refine ⟨_,run_beginRound hrdy1 (by rw [hrec]), ?_⟩
        obtain ⟨w2,hw2⟩ : ∃ w2,w2 = w1.putObj l (.loop { rec .ready none with state:=.busy }):=⟨_,rfl⟩
        rw [← hw2]
        have hbusy : w2.heap[l]? = some (.loop { rec .ready none with state:=.busy }):=by rw [hw2];exact World.putObj_heap_same hwl1
        have hoth : ∀ k,k ≠ l → w2.heap[k]? = w1.heap[k]?:=fun k hk => by rw [hw2];exact World.putObj_heap_other hk
        have hsz2 : w2.heap.size = w1.heap.size:=by rw [hw2];simp
        have hr2 : Rel ((B.sub W1 S0 s0.h φ0).sub w2 S1 s1.h φ1) s1 φ1 S1 a1' w2:=
          hRA.inner (s:=⟨t.e,s1.h,s1.nx⟩) hsz2 (fun c hc => hoth c fun e => by subst e;exact hc.elim hlS1 hlG1) (e:=s1.e) (a':=a1') hr1'.env hr1'.size (by rw [hw2];exact hr1'.def0.putObj hrdy1 _)
        have hB3 : BOK E ((B.sub W1 S0 s0.h φ0).sub w2 S1 s1.h φ1):=⟨(hB2.gok hr1').mono (fun b hb => hoth b fun e => hlS1 (e ▸ hb)) (fun _ h => h),fun b hb => ⟨by show b < w2.heap.size;rw [hsz2];exact hRA.slt b hb,fun hg => hRA.notS hz1 hg hb⟩⟩
        refine AW_sound y _ hB3 (some l) (.inr hpy) _ _ _ _ _ _ _ hoy (fun e s2 φ2 S2 a2 w3 hr3 hq => ?_) hr2 hW
        obtain ⟨hlS2,hlG2,hw3⟩:=hr3.stays (l:=l) (by rw [hsz2];exact hwl1) hlS1 hlG1
        have hbusy3 : w3.heap[l]? = some (.loop { rec .ready none with state:=.busy }):=hw3.trans hbusy
        have hwl3 : l < w3.heap.size:=(Array.getElem?_eq_some_iff.1 hbusy3).1
        have hRB : Onw s1.h s1.nx s2.h s2.nx → Rel (B.sub W1 S0 s0.h φ0) ⟨t.e,s2.h,s2.nx⟩ φ2 S2 a0 (w3.putObj l (.loop (rec .ready none))):=fun hon2 => by
          have hkeep : ∀ c,c < w1.heap.size → ¬ GB s1.h φ1 c → (w3.putObj l (.loop (rec .ready none))).heap[c]? = w1.heap[c]?:=fun c hc hg => by
            by_cases e : c = l
            · subst e;rw [World.putObj_heap_same hwl3,hrdy1]
            · rw [World.putObj_heap_other e,hr3.below.block c (by show c < w2.heap.size;rw [hsz2];exact hc) hg];exact hoth c e
          refine hRA.up (w2:=w3.putObj l (.loop (rec .ready none))) (s:=⟨t.e,s1.h,s1.nx⟩) hz1 hon2.2 hr3 hsz2 (by simp) (hr3.below.os.trans (by rw [hw2];rfl)) (hr3.below.tape.trans (by rw [hw2];rfl)) (hr3.below.output.trans (by rw [hw2];rfl)) hkeep (fun c hc => World.putObj_heap_other fun e => by subst e;exact hc.elim hlS2 hlG2)
            (hRA.keepE (w2:=w3.putObj l (.loop (rec .ready none))) (s:=⟨t.e,s1.h,s1.nx⟩) hz1 hon2.1 hr3 hkeep)
        have stop : ∀ cc : Code,Onw s1.h s1.nx s2.h s2.nx → (∀ w4,Rel B ⟨t.e,s2.h,s2.nx⟩ φ2 S2 a1 w4 → cc.wpIn (WF none) 0 E.P Q' a1 w4) →
            ∃ cc' t φ' S',(∀ w4,Rel B t φ' S' a1 w4 → cc'.wpIn (WF none) 0 E.P Q' a1 w4) ∧ Rel B t φ' S' a1 (w3.putObj l (.loop (rec .done (some cc)))) ∧ (w3.putObj l (.loop (rec .done (some cc)))).heap[l]? = some (.loop (rec .done (some cc'))) ∧ ¬ S' l ∧ ¬ GB t.h φ' l:=fun cc hon2 hcc => by
          refine ⟨cc,_,φ2,S2,hcc, ?_,World.putObj_heap_same hwl3,hlS2,hlG2⟩
          have hRC:=upB (t:=⟨t.e,s2.h,s2.nx⟩) (hfr.trans (hon.2.trans hon2.2)) (hRB hon2)
          have:=hRC.putObj (l:=l) (World.putObj_heap_same hwl3) (.loop (rec .done (some cc))) hlS2 hlG2 (by have:=hr0.below.size;omega)
          simpa [World.putObj] using this
        have fin : ∀ j : Option Code,(Instr.endRound l j).run E.P w3 = .ok (.bool j.isNone) (w3.putObj l (.loop (rec (if j.isNone then .ready else .done) j))):=fun j => by
          have:=run_endRound (P:=E.P) (l:=l) j hbusy3
          rw [hrec] at this ⊢
          exact this
        cases e with
        | normal =>
          obtain ⟨hon2,s'',hwk2,hI⟩:=hq
          refine ⟨_,_,fin none, .inl ⟨rfl, ?_⟩⟩
          obtain ⟨φ3,S3,hr4⟩:=hwk2 _ φ2 S2 a0 _ (mx_le hr0.nx fun b x hm => mem_look hm) (hRB hon2)
          exact ⟨s'',φ3,S3,hI,hr4⟩
        | ret =>
          obtain ⟨hon2,hqr⟩:=hq
          exact ⟨_,_,fin (some .ret), .inr ⟨rfl,stop .ret hon2 fun w4 h => wpIn_ret (hQ _ _ _ _ _ _ h hqr)⟩⟩
        | exit id =>
          obtain ⟨hon2,hqr⟩:=hq
          exact ⟨_,_,fin (some (.exit id)), .inr ⟨rfl,stop (.exit id) hon2 fun w4 h => wpIn_exit (hQ _ _ _ _ _ _ h hqr)⟩⟩
        | goto t => exact hq.elim
        | panic ch => exact hq.elim
        | outgrown => exact hq.elim
      · rintro e W2 ⟨⟨v,rfl⟩,(⟨t,φ',S',hI,hrt⟩ | ⟨cc,t,φ',S',hcc,hrt,hrc,hS,hG⟩)⟩
        · obtain ⟨hlS',hlG',hrdy⟩:=hrt.stays (l:=l) (by omega) hlS0 hlG0
          have hrdy : W2.heap[l]? = some (.loop (rec .ready none)):=hrdy.trans hL1
          refine ⟨none,_,by have:=run_endLoop (P:=E.P) hrdy (by rw [hrec];simp);rw [hrec] at this;exact this, ?_⟩
          have hl':=hrdy
          rw [hrec] at hl'
          have:=hQ .normal t φ' S' a1 _ ((upB (hround 0 t hI).1 hrt).putObj hl' (.loop { state:=.exhausted,pending:=none,fn,tmps:=a.tmps,params:=#[p,q],assign:=x,body:=y,defers:=w.heap.size }) hlS' hlG' (by have:=hr0.below.size;omega)) (hdone t hI)
          rw [ha1] at this
          exact this
        · refine ⟨some cc,_,by have:=run_endLoop (P:=E.P) hrc (by rw [hrec];simp);rw [hrec] at this;exact this, ?_⟩
          have hl':=hrc
          rw [hrec] at hl'
          have:=hcc _ (hrt.putObj hl' (.loop { state:=.exhausted,pending:=some cc,fn,tmps:=a.tmps,params:=#[p,q],assign:=x,body:=y,defers:=w.heap.size }) hS hG (by have:=hr0.below.size;omega))
          rw [ha1] at this
          exact this
    | [],h,_ => simp only [AW] at h
    | [_],h,_ => simp only [AW] at h
    | _ :: _ :: _ :: _,h,_ => simp only [AW] at h
end
end Go.Proofs.YtakaojkfipnfcaaGreatDoor.Lv
