/- The abstract machine: values, states, what they say of a world, and that what is read stays as it was. The abstract machine: what the operations that only reckon or read come to, and that the model's come to the same. The abstract machine: the model's reading operations come to what the abstract ones say. The abstract machine: the operations that only reckon or read, all together. -/
import Derived.Test.YtakaojkfipnfcaaGreatDoorProg
import Derived.WalkKit
import Derived.KernelRfl
import Derived.Orders
import Derived.Below
set_option linter.unusedVariables false
set_option linter.unusedSimpArgs false
set_option maxRecDepth 100000
set_option maxHeartbeats 4000000
namespace Go.Proofs.YtakaojkfipnfcaaGreatDoor.Lv
open Go Go.RowKit
inductive D where
  | int (k : IntKind) (n : Int)
  | bool (b : Bool)
  | str (s : List UInt8)
  | nilp | nils | nilm | nilf
  | agg (cs : List D)
  | ro (ag : Bool) (sz n : Nat) (f : Nat → D)
  | sl (b ver off n : Nat)
  | ad (b off : Nat)
  | el (b ver i fo : Nat)
  | vs (b off esz n : Nat)
  | ra (ag : Bool) (sz : Nat) (d : D) (fo : Nat)
  | fn (f : Nat) (cap : List D)
  | tup (ds : List D)
  | gl (g : Nat)
  | unk
inductive Blk where
  | var (ag : Bool) (sz : Nat) (d : D) (ty : Nat:=0)
  | row (fz : Bool) (ver : Nat) (ag : Bool) (sz n : Nat) (f : Nat → D) (ty : Nat:=0)
abbrev Hp:=List (Nat × Blk)
def look {α : Type} (d : α) : List (Nat × α) → Nat → α
  | [],_ => d
  | (b,x) :: r,t => if t = b then x else look d r t
def lookB : Hp → Nat → Option Blk
  | [],_ => none
  | (b,x) :: r,t => if t = b then some x else lookB r t
def At (w : World) (b o : Nat) (vs : List Value) : Prop:=∀ j x,vs[j]? = some x → w.cell? ⟨b,o + j,none⟩ = some x ∧ x.oneCell' = true
def Cells (ag : Bool) (x : Value) (vs : List Value) : Prop:=if ag then x = .agg ⟨vs⟩ else vs = [x]
section
variable (S : Nat → Prop) (w : World)
mutual
def Rep0 : D → Value → Prop
  | .int k n,v => v = .int k n
  | .bool b,v => v = .bool b
  | .str s,v => v = .string ⟨s.toArray⟩
  | .nilp,v => v = .pointer none
  | .nils,v => v = .slice none 0 0
  | .nilm,v => v = .map none
  | .nilf,v => v = .nilFunc
  | .agg cs,v => ∃ vs,v = .agg ⟨vs⟩ ∧ Rep0s cs vs
  | .ro ag sz n f,v => ∃ a cap,v = .slice a n cap ∧ n ≤ cap ∧ cap ≤ 9223372036854775807 ∧ (0 < n → ∃ b o,a = some ⟨b,o,none⟩ ∧ S b ∧
      ∀ i,i < n → ∃ x vs,vs.length = sz ∧ At w b (o + i * sz) vs ∧ Cells ag x vs ∧ Rep0 (f i) x)
  | .ra ag sz d fo,v => ∃ b o x vs,v = .pointer (some ⟨b,o + fo,none⟩) ∧ S b ∧ vs.length = sz ∧ At w b o vs ∧ Cells ag x vs ∧ Rep0 d x
  | .fn f cap,v => ∃ vs,v = .func (.func f) #[] ⟨vs⟩ ∧ Rep0s cap vs
  | .tup ds,v => ∃ vs,v = .tuple ⟨vs⟩ ∧ Rep0s ds vs
  | .gl g,v => v = .pointer (some ⟨g,0,none⟩)
  | .sl ..,_ | .ad ..,_ | .el ..,_ | .vs ..,_ => False
  | .unk,_ => True
def Rep0s : List D → List Value → Prop
  | [],vs => vs = []
  | d :: ds,vs => ∃ v vs',vs = v :: vs' ∧ Rep0 d v ∧ Rep0s ds vs'
end
end
def Kept (S : Nat → Prop) (w w' : World) : Prop:=∀ b,S b → w'.heap[b]? = w.heap[b]?
theorem Kept.at {S : Nat → Prop} {w w' : World} (h : Kept S w w') {b o : Nat} (hb : S b) {vs : List Value} (ha : At w b o vs) : At w' b o vs:=
  fun j x hj => ⟨(World.cell?_of_block (w:=w) (h b hb)).trans (ha j x hj).1,(ha j x hj).2⟩
section
variable {S S' : Nat → Prop} {w w' : World}
mutual
theorem Rep0.mono (hk : Kept S w w') (hs : ∀ b,S b → S' b) : ∀ (d : D) (v : Value),Rep0 S w d v → Rep0 S' w' d v
  | .int ..,_,h | .bool ..,_,h | .str ..,_,h | .nilp,_,h | .nils,_,h | .nilm,_,h | .nilf,_,h | .gl ..,_,h | .unk,_,h => by simp only [Rep0] at h ⊢ <;> exact h
  | .sl ..,_,h | .ad ..,_,h | .el ..,_,h | .vs ..,_,h => by simp [Rep0] at h
  | .agg cs,v,h => by
    simp only [Rep0] at h ⊢
    obtain ⟨vs,e,h⟩:=h
    exact ⟨vs,e,Rep0s.mono hk hs cs vs h⟩
  | .tup cs,v,h => by
    simp only [Rep0] at h ⊢
    obtain ⟨vs,e,h⟩:=h
    exact ⟨vs,e,Rep0s.mono hk hs cs vs h⟩
  | .fn f cs,v,h => by
    simp only [Rep0] at h ⊢
    obtain ⟨vs,e,h⟩:=h
    exact ⟨vs,e,Rep0s.mono hk hs cs vs h⟩
  | .ro ag sz n f,v,h => by
    simp only [Rep0] at h ⊢
    obtain ⟨a,cap,e,hn,hc,h⟩:=h
    refine ⟨a,cap,e,hn,hc,fun hp => ?_⟩
    obtain ⟨b,o,ea,hb,h⟩:=h hp
    refine ⟨b,o,ea,hs b hb,fun i hi => ?_⟩
    obtain ⟨x,vs,hl,hat,hce,hr⟩:=h i hi
    exact ⟨x,vs,hl,hk.at hb hat,hce,Rep0.mono hk hs (f i) x hr⟩
  | .ra ag sz d fo,v,h => by
    simp only [Rep0] at h ⊢
    obtain ⟨b,o,x,vs,e,hb,hl,hat,hce,hr⟩:=h
    exact ⟨b,o,x,vs,e,hs b hb,hl,hk.at hb hat,hce,Rep0.mono hk hs d x hr⟩
theorem Rep0s.mono (hk : Kept S w w') (hs : ∀ b,S b → S' b) : ∀ (ds : List D) (vs : List Value),Rep0s S w ds vs → Rep0s S' w' ds vs
  | [],vs,h => by simp only [Rep0s] at h ⊢;exact h
  | d :: ds,vs,h => by
    simp only [Rep0s] at h ⊢
    obtain ⟨v,vs',e,h1,h2⟩:=h
    exact ⟨v,vs',e,Rep0.mono hk hs d v h1,Rep0s.mono hk hs ds vs' h2⟩
end
end
abbrev Ph:=Nat → Option (Nat × Nat)
section
variable (H : Hp) (φ : Ph) (S : Nat → Prop) (w : World)
mutual
def RepV : D → Value → Prop
  | .agg cs,v => ∃ vs,v = .agg ⟨vs⟩ ∧ RepVs cs vs
  | .fn f cap,v => ∃ vs,v = .func (.func f) #[] ⟨vs⟩ ∧ RepVs cap vs
  | .tup ds,v => ∃ vs,v = .tuple ⟨vs⟩ ∧ RepVs ds vs
  | .sl b ver off n,v => ∃ fz ver' ag sz m f ty,lookB H b = some (.row fz ver' ag sz m f ty) ∧ ver ≤ ver' ∧ (ver = ver' → off + n ≤ m ∧ ∃ a cap,v = .slice a n cap ∧ n ≤ cap ∧ (φ b = none → a = none ∧ cap = 0) ∧
      ∀ c tot,φ b = some (c,tot) → off + cap = tot ∧ a.isSome = true ∧ (0 < cap → a = some ⟨c,off * sz,none⟩))
  | .ad b off,v => ∃ ag sz d ty c t,lookB H b = some (.var ag sz d ty) ∧ φ b = some (c,t) ∧ v = .pointer (some ⟨c,off,none⟩)
  | .el b ver i fo,v => ∃ fz ver' ag sz m f ty,lookB H b = some (.row fz ver' ag sz m f ty) ∧ ver ≤ ver' ∧ (ver = ver' → i < m ∧ ∃ c t,φ b = some (c,t) ∧ v = .pointer (some ⟨c,i * sz + fo,none⟩))
  | .vs b off esz n,v => ∃ ag sz d ty c t a cap,lookB H b = some (.var ag sz d ty) ∧ φ b = some (c,t) ∧ v = .slice a n cap ∧ n ≤ cap ∧ (0 < cap → a = some ⟨c,off,none⟩) ∧ a.isSome = true
  | d,v => Rep0 S w d v
def RepVs : List D → List Value → Prop
  | [],vs => vs = []
  | d :: ds,vs => ∃ v vs',vs = v :: vs' ∧ RepV d v ∧ RepVs ds vs'
end
def BlkAt (b : Nat) : Blk → Prop
  | .var ag sz d ty => ∃ c t,φ b = some (c,t) ∧ ¬ S c ∧ ∃ x vs e lo hi,w.heap[c]? = some (.cells ⟨vs⟩ e (lo,hi)) ∧ vs.length = sz ∧ ((∀ o,o < sz → ¬ (lo ≤ o ∧ o < hi)) ∧ ∀ y ∈ vs,y.oneCell' = true) ∧ Cells ag x vs ∧ RepV H φ S w d x ∧ (ty = 0 ∨ e = ty)
  | .row fz ver ag sz n f ty => (φ b = none → n = 0) ∧ ∀ c tot,φ b = some (c,tot) → (fz = false → ¬ S c) ∧ (fz = true → S c) ∧ tot ≤ 9223372036854775807 ∧ n ≤ tot ∧
      ∃ vs e lo hi,w.heap[c]? = some (.cells ⟨vs⟩ e (lo,hi)) ∧ vs.length = tot * sz ∧ ((∀ o,o < tot * sz → ¬ (lo ≤ o ∧ o < hi)) ∧ ∀ y ∈ vs,y.oneCell' = true) ∧
      (∀ i,i < n → ∃ x,Cells ag x ((vs.drop (i * sz)).take sz) ∧ Rep0 S w (f i) x) ∧ (ty = 0 ∨ e = ty)
end
def HpExt (H : Hp) (φ : Ph) (H' : Hp) (φ' : Ph) : Prop:=∀ b,
  (∀ ag sz d ty,lookB H b = some (.var ag sz d ty) → (∃ d',lookB H' b = some (.var ag sz d' ty)) ∧ φ' b = φ b) ∧
  (∀ fz ver ag sz m f ty,lookB H b = some (.row fz ver ag sz m f ty) → ∃ fz' ver' m' f' ty',lookB H' b = some (.row fz' ver' ag sz m' f' ty') ∧ ver ≤ ver' ∧ (ver = ver' → m ≤ m' ∧ φ' b = φ b))
theorem HpExt.refl (H : Hp) (φ : Ph) : HpExt H φ H φ:=fun b => ⟨fun ag sz d ty h => ⟨⟨d,h⟩,rfl⟩,fun fz ver ag sz m f ty h => ⟨fz,ver,m,f,ty,h,Nat.le_refl _,fun _ => ⟨Nat.le_refl _,rfl⟩⟩⟩
theorem HpExt.trans {H H' H'' : Hp} {φ φ' φ'' : Ph} (h : HpExt H φ H' φ') (h' : HpExt H' φ' H'' φ'') : HpExt H φ H'' φ'':=fun b =>
  ⟨fun ag sz d ty e => by
    obtain ⟨⟨d1,e1⟩,p1⟩:=(h b).1 ag sz d ty e
    obtain ⟨⟨d2,e2⟩,p2⟩:=(h' b).1 ag sz d1 ty e1
    exact ⟨⟨d2,e2⟩,p2.trans p1⟩,
   fun fz ver ag sz m f ty e => by
    obtain ⟨fz1,ver1,m1,f1,ty1,e1,v1,p1⟩:=(h b).2 fz ver ag sz m f ty e
    obtain ⟨fz2,ver2,m2,f2,ty2,e2,v2,p2⟩:=(h' b).2 fz1 ver1 ag sz m1 f1 ty1 e1
    refine ⟨fz2,ver2,m2,f2,ty2,e2,Nat.le_trans v1 v2,fun e3 => ?_⟩
    have a1:=p1 (by omega)
    have a2:=p2 (by omega)
    exact ⟨Nat.le_trans a1.1 a2.1,a2.2.trans a1.2⟩⟩
def HpOn (H : Hp) (φ : Ph) (H' : Hp) (φ' : Ph) : Prop:=∀ b,(lookB H' b).isSome = true →
  (∀ ag sz d ty,lookB H b = some (.var ag sz d ty) → (∃ d',lookB H' b = some (.var ag sz d' ty)) ∧ φ' b = φ b) ∧
  (∀ fz ver ag sz m f ty,lookB H b = some (.row fz ver ag sz m f ty) → ∃ fz' ver' m' f' ty',lookB H' b = some (.row fz' ver' ag sz m' f' ty') ∧ ver ≤ ver' ∧ (ver = ver' → m ≤ m' ∧ φ' b = φ b))
theorem HpOn.refl (H : Hp) (φ : Ph) : HpOn H φ H φ:=fun b _ => HpExt.refl H φ b
theorem HpOn.trans {H H' H'' : Hp} {φ φ' φ'' : Ph} (h : HpOn H φ H' φ') (h' : HpExt H' φ' H'' φ'') (hn : ∀ b,(lookB H'' b).isSome = true → (lookB H' b).isSome = true ∨ lookB H b = none) : HpOn H φ H'' φ'':=fun b hb => by
  rcases hn b hb with hs | hn
  · refine ⟨fun ag sz d ty e => ?_,fun fz ver ag sz m f ty e => ?_⟩
    · obtain ⟨⟨d1,e1⟩,p1⟩:=(h b hs).1 ag sz d ty e
      obtain ⟨⟨d2,e2⟩,p2⟩:=(h' b).1 ag sz d1 ty e1
      exact ⟨⟨d2,e2⟩,p2.trans p1⟩
    · obtain ⟨fz1,ver1,m1,f1,ty1,e1,v1,p1⟩:=(h b hs).2 fz ver ag sz m f ty e
      obtain ⟨fz2,ver2,m2,f2,ty2,e2,v2,p2⟩:=(h' b).2 fz1 ver1 ag sz m1 f1 ty1 e1
      refine ⟨fz2,ver2,m2,f2,ty2,e2,Nat.le_trans v1 v2,fun e3 => ?_⟩
      have a1:=p1 (by omega)
      have a2:=p2 (by omega)
      exact ⟨Nat.le_trans a1.1 a2.1,a2.2.trans a1.2⟩
  · exact ⟨fun ag sz d ty e => (by rw [hn] at e;cases e),fun fz ver ag sz m f ty e => (by rw [hn] at e;cases e)⟩
def mx : Hp → Nat
  | [] => 0
  | (i,_) :: r => max (i + 1) (mx r)
theorem mx_lt : ∀ {h : Hp} {i : Nat} {y : Blk},lookB h i = some y → i < mx h
  | (j,z) :: r,i,y,h => by
    simp only [lookB] at h
    simp only [mx]
    split at h
    · omega
    · have:=mx_lt h;omega
section
variable {H H' : Hp} {φ φ' : Ph} {S S' : Nat → Prop} {w w' : World}
mutual
theorem Rep0.toV : ∀ (d : D) (v : Value),Rep0 S w d v → RepV H φ S w d v
  | .int ..,_,h | .bool ..,_,h | .str ..,_,h | .nilp,_,h | .nils,_,h | .nilm,_,h | .nilf,_,h | .gl ..,_,h | .unk,_,h | .ro ..,_,h | .ra ..,_,h => by simpa only [RepV] using h
  | .sl ..,_,h | .ad ..,_,h | .el ..,_,h | .vs ..,_,h => by simp only [Rep0] at h
  | .agg cs,v,h => by
    simp only [Rep0,RepV] at h ⊢
    obtain ⟨vs,e,h⟩:=h
    exact ⟨vs,e,Rep0s.toV cs vs h⟩
  | .tup cs,v,h => by
    simp only [Rep0,RepV] at h ⊢
    obtain ⟨vs,e,h⟩:=h
    exact ⟨vs,e,Rep0s.toV cs vs h⟩
  | .fn f cs,v,h => by
    simp only [Rep0,RepV] at h ⊢
    obtain ⟨vs,e,h⟩:=h
    exact ⟨vs,e,Rep0s.toV cs vs h⟩
theorem Rep0s.toV : ∀ (ds : List D) (vs : List Value),Rep0s S w ds vs → RepVs H φ S w ds vs
  | [],vs,h => by simpa only [Rep0s,RepVs] using h
  | d :: ds,vs,h => by
    simp only [Rep0s,RepVs] at h ⊢
    obtain ⟨v,vs',e,h1,h2⟩:=h
    exact ⟨v,vs',e,Rep0.toV d v h1,Rep0s.toV ds vs' h2⟩
end
mutual
theorem RepV.mono (hx : HpExt H φ H' φ') (hk : Kept S w w') (hs : ∀ b,S b → S' b) : ∀ (d : D) (v : Value),RepV H φ S w d v → RepV H' φ' S' w' d v
  | .int ..,_,h | .bool ..,_,h | .str ..,_,h | .nilp,_,h | .nils,_,h | .nilm,_,h | .nilf,_,h | .gl ..,_,h | .unk,_,h | .ro ..,_,h | .ra ..,_,h => by
    simp only [RepV] at h ⊢
    exact Rep0.mono hk hs _ _ h
  | .sl b ver off n,v,h => by
    simp only [RepV] at h ⊢
    obtain ⟨fz,ver',ag,sz,m,f,ty,hl,hv,h⟩:=h
    obtain ⟨fz2,ver2,m2,f2,ty2,hl2,hv2,h2⟩:=(hx b).2 _ _ _ _ _ _ _ hl
    refine ⟨fz2,ver2,ag,sz,m2,f2,ty2,hl2,by omega,fun e => ?_⟩
    obtain ⟨h3,a,cap,e1,h4,h5,h6⟩:=h (by omega)
    obtain ⟨h7,h8⟩:=h2 (by omega)
    rw [h8]
    exact ⟨by omega,a,cap,e1,h4,h5,h6⟩
  | .ad b off,v,h => by
    simp only [RepV] at h ⊢
    obtain ⟨ag,sz,d,ty,c,t,hl,hp,e⟩:=h
    obtain ⟨⟨d',h1⟩,h2⟩:=(hx b).1 _ _ _ _ hl
    exact ⟨ag,sz,d',ty,c,t,h1,h2.trans hp,e⟩
  | .el b ver i fo,v,h => by
    simp only [RepV] at h ⊢
    obtain ⟨fz,ver',ag,sz,m,f,ty,hl,hv,h⟩:=h
    obtain ⟨fz2,ver2,m2,f2,ty2,hl2,hv2,h2⟩:=(hx b).2 _ _ _ _ _ _ _ hl
    refine ⟨fz2,ver2,ag,sz,m2,f2,ty2,hl2,by omega,fun e => ?_⟩
    obtain ⟨h3,c,t,e1,h4⟩:=h (by omega)
    obtain ⟨h7,h8⟩:=h2 (by omega)
    exact ⟨by omega,c,t,h8.trans e1,h4⟩
  | .vs b off esz n,v,h => by
    simp only [RepV] at h ⊢
    obtain ⟨ag,sz,d,ty,c,t,a,cap,hl,hp,e⟩:=h
    obtain ⟨⟨d',h1⟩,h2⟩:=(hx b).1 _ _ _ _ hl
    exact ⟨ag,sz,d',ty,c,t,a,cap,h1,h2.trans hp,e⟩
  | .agg cs,v,h => by
    simp only [RepV] at h ⊢
    obtain ⟨vs,e,h⟩:=h
    exact ⟨vs,e,RepVs.mono hx hk hs cs vs h⟩
  | .tup cs,v,h => by
    simp only [RepV] at h ⊢
    obtain ⟨vs,e,h⟩:=h
    exact ⟨vs,e,RepVs.mono hx hk hs cs vs h⟩
  | .fn f cs,v,h => by
    simp only [RepV] at h ⊢
    obtain ⟨vs,e,h⟩:=h
    exact ⟨vs,e,RepVs.mono hx hk hs cs vs h⟩
theorem RepVs.mono (hx : HpExt H φ H' φ') (hk : Kept S w w') (hs : ∀ b,S b → S' b) : ∀ (ds : List D) (vs : List Value),RepVs H φ S w ds vs → RepVs H' φ' S' w' ds vs
  | [],vs,h => by simpa only [RepVs] using h
  | d :: ds,vs,h => by
    simp only [RepVs] at h ⊢
    obtain ⟨v,vs',e,h1,h2⟩:=h
    exact ⟨v,vs',e,RepV.mono hx hk hs d v h1,RepVs.mono hx hk hs ds vs' h2⟩
end
end
structure HpAt (H : Hp) (φ : Ph) (S : Nat → Prop) (w : World) : Prop where
  blk : ∀ b x,lookB H b = some x → BlkAt H φ S w b x
  inj : ∀ b b' x x' c t t',lookB H b = some x → lookB H b' = some x' → φ b = some (c,t) → φ b' = some (c,t') → b = b'
structure St where
  e : Nat → D
  h : Hp
  nx : Nat
structure Base where
  w0 : World
  S0 : Nat → Prop
  G : Nat → Prop
  N : Nat
  h0 : Hp
  φ0 : Ph
  
  n0 : Nat
structure Trod (G : Nat → Prop) (w w' : World) : Prop where
  os : w'.os = w.os
  tape : w'.tape = w.tape
  output : w'.output = w.output
  size : w.heap.size ≤ w'.heap.size
  block : ∀ k,k < w.heap.size → ¬ G k → w'.heap[k]? = w.heap[k]?
def Marked (n0 : Nat) (h : Hp) (φ : Ph) (S : Nat → Prop) (w : World) (ds : List Deferred) : Prop:=
  ∃ Ds : List Nat,ds = Ds.map (fun D => ({ target:=.collected D,args:=#[] } : Deferred)) ∧ Ds.Nodup ∧
    ∀ D,D ∈ Ds → w.heap[D]? = some (.deferred (some [])) ∧ n0 ≤ D ∧ ¬ S D ∧ ∀ b x c t,lookB h b = some x → φ b = some (c,t) → c ≠ D
theorem Marked.nil (n0 : Nat) (h : Hp) (φ : Ph) (S : Nat → Prop) (w : World) : Marked n0 h φ S w []:=⟨[],rfl,List.nodup_nil,fun D hD => by cases hD⟩
theorem Marked.move {n0 : Nat} {h h' : Hp} {φ φ' : Ph} {S S' : Nat → Prop} {w w' : World} {ds : List Deferred} (hm : Marked n0 h φ S w ds)
    (hh : ∀ D,D < w.heap.size → n0 ≤ D → ¬ S D → (∀ b x c t,lookB h b = some x → φ b = some (c,t) → c ≠ D) → w'.heap[D]? = w.heap[D]? ∧ ¬ S' D ∧ ∀ b x c t,lookB h' b = some x → φ' b = some (c,t) → c ≠ D) : Marked n0 h' φ' S' w' ds:=by
  obtain ⟨Ds,e,hn,hD⟩:=hm
  refine ⟨Ds,e,hn,fun D hd => ?_⟩
  obtain ⟨h1,h2,h3,h4⟩:=hD D hd
  obtain ⟨k1,k2,k3⟩:=hh D (Array.getElem?_eq_some_iff.1 h1).1 h2 h3 h4
  exact ⟨k1.trans h1,h2,k2,k3⟩
structure Rel (B : Base) (s : St) (φ : Ph) (S : Nat → Prop) (a : Act) (w : World) : Prop where
  env : ∀ t,RepV s.h φ S w (s.e t) (a.tmps.getD t undef)
  size : a.tmps.size = B.N
  hp : HpAt s.h φ S w
  nx : ∀ b x,lookB s.h b = some x → b < s.nx
  slt : ∀ b,S b → b < w.heap.size
  plt : ∀ b x c t,lookB s.h b = some x → φ b = some (c,t) → c < w.heap.size
  old : ∀ b x c t,lookB s.h b = some x → φ b = some (c,t) → B.w0.heap.size ≤ c ∨ B.G c
  s0 : ∀ b,B.S0 b → S b
  s1 : ∀ b,S b → b < B.w0.heap.size → B.S0 b ∨ B.G b
  below : Trod B.G B.w0 w
  ext : HpOn B.h0 B.φ0 s.h φ
  nx0 : mx B.h0 ≤ s.nx
  def0 : Marked B.n0 s.h φ S w a.defers
inductive TK where
  | int (k : IntKind) | bool | string | slc (e : Nat) | arr (n e : Nat) | strct (fs : List (Nat × Nat)) | ptr (e : Nat) | map (k v : Nat) | fn | uptr | oth | bad
  deriving DecidableEq
structure TI where
  ag : Bool
  sz : Nat
  bytes : Nat
  k : TK
  hz : Bool
  zero : D
  
  eqo : Bool
  
  trk : Bool
mutual
def ofVal : Value → D
  | .int k n => .int k n
  | .bool b => .bool b
  | .string s => .str s.data.toList
  | .pointer none => .nilp
  | .slice none n c => if n = 0 ∧ c = 0 then .nils else .unk
  | .map none => .nilm
  | .nilFunc => .nilf
  | .agg ⟨cs⟩ => .agg (ofVals cs)
  | _ => .unk
def ofVals : List Value → List D
  | [] => []
  | v :: vs => ofVal v :: ofVals vs
end
def tkOf : TypeDesc → TK
  | .int k => .int k
  | .bool => .bool
  | .string => .string
  | .slice e => .slc e
  | .array n e => .arr n e
  | .struct fs => .strct (fs.toList.map fun f => (f.offset,f.type))
  | .pointer e => .ptr e
  | .map k v => .map k v
  | .func .. => .fn
  | .unsafePointer => .uptr
  | _ => .oth
def agOf : TypeDesc → Bool
  | .struct _ | .array _ _ => true
  | _ => false
def eqOk (P : Program) (t : Nat) (d : TypeDesc) : Bool:=!(P.stoodInHeld t) && !(P.eqGuardType P.depth t) && match d with
  | .struct fs => fs.toList.all fun f => !(f.name == "_")
  | _ => true
def trkOf (P : Program) (t : Nat) : TypeDesc → Bool
  | .struct ⟨f :: _⟩ => match P.underlying f.type with
    | some (.pointer e) => e == t
    | some (.struct ⟨g :: _⟩) => match P.underlying g.type with
      | some (.pointer e) => e == f.type
      | _ => false
    | _ => false
  | _ => false
def tiOf (P : Program) (t : Nat) : TI:=
  match P.info? t,P.underlying t with
  | some i,some d => ⟨agOf d,i.size,i.bytes,tkOf d,i.zero.isSome,(i.zero.map ofVal).getD .unk,agOf d && eqOk P t d,trkOf P t d⟩
  | _,_ => ⟨false,0,0, .bad,false, .unk,false,false⟩
structure Ctx where
  P : Program
  tt : Nat → TI
  gv : Nat → D
  htt : ∀ t,tt t = tiOf P t
  mixed : P.follows .mixedOrders = true
  
  give : Nat → Bool
def ev (E : Ctx) (s : St) : Operand → D
  | .tmp t => s.e t
  | .const v => ofVal v
  | .global g => E.gv g
  | .func f => .fn f []
def asAgg : D → Option (List D)
  | .agg cs => some cs
  | _ => none
def cellsOf (ag : Bool) (d : D) : Option (List D):=if ag then asAgg d else some [d]
def part (ag : Bool) (off n : Nat) (cs : List D) : Option D:=
  if off + n ≤ cs.length then some (if ag then .agg ((cs.drop off).take n) else cs.getD off .unk) else none
def rd (ag : Bool) (n : Nat) (ag' : Bool) (sz : Nat) (d : D) (off : Nat) : Option D:=
  if ag && ag' && off == 0 && n == sz then some d else if ag || n == 1 then (cellsOf ag' d).bind (part ag off n) else none
def ldd (h : Hp) (ag : Bool) (n : Nat) : D → Option D
  | .ad b off => match lookB h b with
    | some (.var ag' sz d ty) => rd ag n ag' sz d off
    | _ => none
  | .el b ver i fo => match lookB h b with
    | some (.row _ ver' ag' sz _ f ty) => if ver = ver' then rd ag n ag' sz (f i) fo else none
    | _ => none
  | .ra ag' sz d fo => rd ag n ag' sz d fo
  | _ => none
def cur (h : Hp) (b ver : Nat) : Bool:=match lookB h b with
  | some (.row _ v _ _ _ _ _) => v == ver
  | _ => false
def grd (c : Prop) [Decidable c] (d : D) : Option D:=if c then some d else none
def bits (k : IntKind) (op : BinOp) (a b : Int) : Int:=
  let x:=BitVec.ofInt k.bits a
  let y:=BitVec.ofInt k.bits b
  k.wrap (match op with | .and => x &&& y | .or => x ||| y | .xor => x ^^^ y | _ => x &&& ~~~y).toNat
def bin (k : TK) (op : BinOp) : D → D → Option D
  | .int k a, .int k' b => match op with
    | .shr => grd (0 ≤ b) (.int k (a.fdiv (2 ^ (min b.toNat k.bits))))
    | .shl => grd (0 ≤ b) (.int k (k.wrap (a * 2 ^ (min b.toNat k.bits))))
    | op => if k = k' then match op with
      | .add => some (.int k (k.wrap (a + b)))
      | .sub => some (.int k (k.wrap (a - b)))
      | .mul => some (.int k (k.wrap (a * b)))
      | .quo => grd (b ≠ 0) (.int k (k.wrap (a.tdiv b)))
      | .rem => grd (b ≠ 0) (.int k (a.tmod b))
      | .and | .or | .xor | .andNot => some (.int k (bits k op a b))
      | .eql => some (.bool (a == b))
      | .neq => some (.bool (a != b))
      | .lss => some (.bool (decide (a < b)))
      | .leq => some (.bool (decide (a ≤ b)))
      | .gtr => some (.bool (decide (a > b)))
      | .geq => some (.bool (decide (a ≥ b)))
      | _ => none else none
  | .bool a, .bool b => match k,op with
    | .bool, .eql => some (.bool (a == b))
    | .bool, .neq => some (.bool (!(a == b)))
    | _,_ => none
  | .str a, .str b => match op with
    | .eql => some (.bool (a == b))
    | .neq => some (.bool (!(a == b)))
    | .add => grd (a.length + b.length ≤ 9223372036854775807) (.str (a ++ b))
    | _ => none
  | .nilp, .nilp => match k,op with
    | .ptr _, .eql => some (.bool true)
    | .ptr _, .neq => some (.bool false)
    | _,_ => none
  | .ad .., .nilp | .nilp, .ad .. => match k,op with
    | .ptr _, .eql => some (.bool false)
    | .ptr _, .neq => some (.bool true)
    | _,_ => none
  | _,_ => none
def un (op : UnOp) : D → Option D
  | .int k n => match op with
    | .neg => some (.int k (k.wrap (0 - n)))
    | .xor => some (.int k (bits k .xor (if k.signed then -1 else k.max) n))
    | _ => none
  | .bool b => match op with
    | .not => some (.bool !b)
    | _ => none
  | _ => none
def lenD (h : Hp) : TK → D → Option D
  | .slc _, .ro _ _ n _ => some (.int .i64 n)
  | .slc _, .sl b ver _ n => match lookB h b with
    | some (.row _ ver' _ _ _ _ _) => if ver = ver' then some (.int .i64 n) else none
    | _ => none
  | .slc _, .nils => some (.int .i64 0)
  | .slc _, .vs _ _ _ n => some (.int .i64 n)
  | .string, .str s => some (.int .i64 s.length)
  | .arr n _,_ => some (.int .i64 n)
  | _,_ => none
def bds (n : Nat) : Option D → Option D → Option (Int × Int)
  | none,none => some (0,n)
  | some (.int _ l),none => some (l,n)
  | none,some (.int _ h) => some (0,h)
  | some (.int _ l),some (.int _ h) => some (l,h)
  | _,_ => none
def cutD (x : D) (lo hi : Option D) : Option D:=match x with
  | .str s => (bds s.length lo hi).bind fun p => grd (0 ≤ p.1 ∧ p.1 ≤ p.2 ∧ p.2 ≤ s.length) (.str ((s.take p.2.toNat).drop p.1.toNat))
  | .ro ag sz n f => (bds n lo hi).bind fun p => grd (0 ≤ p.1 ∧ p.1 ≤ p.2 ∧ p.2 ≤ n) (.ro ag sz (p.2.toNat - p.1.toNat) fun i => f (p.1.toNat + i))
  | .sl b ver off n => (bds n lo hi).bind fun p => grd (0 ≤ p.1 ∧ p.1 ≤ p.2 ∧ p.2 ≤ n) (.sl b ver (off + p.1.toNat) (p.2.toNat - p.1.toNat))
  | .nils => (bds 0 lo hi).bind fun p => grd (p.1 = 0 ∧ p.2 = 0) .nils
  | .vs b off esz n => (bds n lo hi).bind fun p => grd (0 ≤ p.1 ∧ p.1 ≤ p.2 ∧ p.2 ≤ n) (.vs b (off + p.1.toNat * esz) esz (p.2.toNat - p.1.toNat))
  | _ => none
def isU8 : D → Bool
  | .int .u8 _ => true
  | _ => false
def u8Of : D → UInt8
  | .int _ n => UInt8.ofNat n.toNat
  | _ => 0
def bstr (h : Hp) : D → Option D
  | .nils => some (.str [])
  | .ro _ _ n f => grd (∀ i,i < n → isU8 (f i) = true) (.str ((List.range n).map fun i => u8Of (f i)))
  | .sl b ver off n => match lookB h b with
    | some (.row _ ver' _ _ _ f ty) => if ver = ver' then grd (∀ i,i < n → isU8 (f (off + i)) = true) (.str ((List.range n).map fun i => u8Of (f (off + i)))) else none
    | _ => none
  | .vs b off esz n => match lookB h b with
    | some (.var true _ (.agg cs) _) => if esz = 1 ∧ off + n ≤ cs.length then grd (∀ i,i < n → isU8 (cs.getD (off + i) .unk) = true) (.str ((List.range n).map fun i => u8Of (cs.getD (off + i) .unk))) else none
    | _ => none
  | _ => none
def conv (E : Ctx) (h : Hp) (src t : Nat) (x : D) : Option D:=if (E.tt src).k = .bad then none else match (E.tt t).k,x with
  | .int k, .int _ n => some (.int k (k.wrap n))
  | .string, .str s => some (.str s)
  | .string,x => match (E.tt src).k with
    | .slc e => match (E.tt e).k with
      | .int .u8 => bstr h x
      | _ => none
    | _ => none
  | .uptr, .ad b off => match (E.tt src).k,lookB h b with
    | .ptr e,some (.var _ sz _ _) => if (E.tt e).sz ≠ 0 ∧ off < sz then some (.ad b off) else none
    | _,_ => none
  | .ptr u, .ad b off => match (E.tt src).k,lookB h b with
    | .uptr,some (.var _ sz _ ty) => if ty ≠ 0 ∧ (E.tt u).sz ≠ 0 ∧ liesAt E.P E.P.depth ty (sz / E.P.cellsOf ty) off u 1 = true then some (.ad b off) else none
    | _,_ => none
  | _,_ => none
def mm (f : Int → Int → Int) : D → D → Option D
  | .int k a, .int _ b => some (.int k (f a b))
  | _,_ => none
def one (h : Hp) : D → Bool
  | .agg _ | .tup _ | .unk => false
  | .sl b ver _ _ => cur h b ver
  | .el b ver _ _ => cur h b ver
  | _ => true
def fits (E : Ctx) (h : Hp) : List (Nat × D) → List (Nat × Nat) → Option (List (Nat × List D))
  | [],_ => some []
  | (i,d) :: r,ps => match ps[i]? with
    | none => none
    | some (off,t) => match cellsOf (E.tt t).ag d with
      | none => none
      | some cs => if cs.length = (E.tt t).sz ∧ ((E.tt t).ag || cs.all (one h)) = true then (fits E h r ps).map fun q => (off,cs) :: q else none
def over : List D → List (Nat × List D) → List D
  | cs,[] => cs
  | cs,(off,ds) :: r => over (cs.take off ++ ds ++ cs.drop (off + ds.length)) r
def eqL (tt : Nat → TI) (f : Nat → D → D → Option Bool) : List (Nat × Nat) → List D → List D → Option Bool
  | [],_,_ => some true
  | (off,t) :: r,xs,ys => if (tt t).sz ≠ 0 ∧ ((tt t).ag || (tt t).sz == 1) = true then (part (tt t).ag off (tt t).sz xs).bind fun a => (part (tt t).ag off (tt t).sz ys).bind fun b => (f t a b).bind fun p => (eqL tt f r xs ys).map fun q => p && q else none
def eqD (tt : Nat → TI) : Nat → Nat → D → D → Option Bool
  | 0,_,_,_ => none
  | d + 1,t,x,y => match (tt t).k,x,y with
    | .int _, .int k a, .int k' b => if k = k' then some (a == b) else none
    | .bool, .bool a, .bool b => some (a == b)
    | .string, .str a, .str b => some (a == b)
    | .strct fs, .agg xs, .agg ys => if (tt t).eqo = true then eqL tt (eqD tt d) fs xs ys else none
    | .arr n e, .agg xs, .agg ys => if (tt t).eqo = true ∧ (tt e).sz ≠ 0 then eqL tt (eqD tt d) ((List.range n).map fun i => (i * (tt e).sz,e)) xs ys else none
    | _,_,_ => none
def eqOr (E : Ctx) (op : BinOp) (t : Nat) : D → D → Option D
  | .agg xs, .agg ys => match op with
    | .eql => if (E.tt t).eqo = true then (eqD E.tt 4 t (.agg xs) (.agg ys)).map fun b => .bool b else none
    | .neq => if (E.tt t).eqo = true then (eqD E.tt 4 t (.agg xs) (.agg ys)).map fun b => .bool !b else none
    | _ => none
  | .ad b o, .ad b' o' => match (E.tt t).k,op with
    | .ptr e, .neq => if b = b' ∧ o = o' ∧ (E.tt e).sz ≠ 0 then some (.bool false) else none
    | _,_ => none
  | x,y => bin (E.tt t).k op x y
def sdD (h : Hp) : D → Option D
  | .sl b ver off n => if cur h b ver = true ∧ 0 < n then some (.el b ver off 0) else none
  | _ => none
def nbad : TK → Bool
  | .bad => false
  | _ => true
def pv (E : Ctx) (s : St) : Op → Option D
  | .move x | .assign x => some (ev E s x)
  | .pick c a b => match ev E s c with
    | .bool x => some (if x then ev E s a else ev E s b)
    | _ => none
  | .load t a => match (E.tt t).k with
    | .bad => none
    | _ => ldd s.h (E.tt t).ag (E.tt t).sz (ev E s a)
  | .fieldAddr t a i => match (E.tt t).k with
    | .strct fs => match fs[i]? with
      | some (fo',ft) => if (E.tt ft).sz = 0 then none else match ev E s a with
        | .ad b off => some (.ad b (off + fo'))
        | .el b ver j fo => if cur s.h b ver then some (.el b ver j (fo + fo')) else none
        | .ra ag sz d fo => some (.ra ag sz d (fo + fo'))
        | _ => none
      | none => none
    | _ => none
  | .field t x i => match (E.tt t).k with
    | .strct fs => match fs[i]? with
      | some (fo,ft) => if (E.tt ft).sz ≠ 0 ∧ ((E.tt ft).ag || (E.tt ft).sz == 1) = true then (asAgg (ev E s x)).bind (part (E.tt ft).ag fo (E.tt ft).sz) else none
      | none => none
    | _ => none
  | .nilCheck x => match ev E s x with
    | .ad b o => some (.ad b o)
    | .el b v i o => if cur s.h b v then some (.el b v i o) else none
    | .ra a b c d => some (.ra a b c d)
    | _ => none
  | .binOp op t x y _ => eqOr E op t (ev E s x) (ev E s y)
  | .unOp op _ x => un op (ev E s x)
  | .convert src t x => conv E s.h src t (ev E s x)
  | .slice t x lo hi none => match (E.tt t).k with
    | .string => match ev E s x with
      | .str z => cutD (.str z) (lo.map (ev E s)) (hi.map (ev E s))
      | _ => none
    | .slc e => if (E.tt e).sz = 0 then none else match ev E s x with
      | .str z => none
      | x => match x with
        | .ro ag sz n f => if (E.tt e).sz = sz then cutD x (lo.map (ev E s)) (hi.map (ev E s)) else none
        | .sl b ver off n => match lookB s.h b with
          | some (.row _ ver' _ sz _ _ _) => if ver = ver' ∧ (E.tt e).sz = sz then cutD x (lo.map (ev E s)) (hi.map (ev E s)) else none
          | _ => none
        | .vs b off esz n => if (E.tt e).sz = esz then cutD x (lo.map (ev E s)) (hi.map (ev E s)) else none
        | x => cutD x (lo.map (ev E s)) (hi.map (ev E s))
    | .arr n e => match ev E s x,lo,hi with
      | .ad b off,none,none => if (E.tt e).sz = 0 then none else some (.vs b off (E.tt e).sz n)
      | _,_,_ => none
    | _ => none
  | .indexAddr t x i => match (E.tt t).k,ev E s x,ev E s i with
    | .slc e, .ro ag sz n f, .int _ i => if (E.tt e).sz = sz ∧ sz ≠ 0 then grd (0 ≤ i ∧ i < n) (.ra ag sz (f i.toNat) 0) else none
    | .slc e, .sl b ver off n, .int _ i => match lookB s.h b with
      | some (.row _ ver' _ sz _ _ _) => if ver = ver' ∧ (E.tt e).sz = sz ∧ sz ≠ 0 then grd (0 ≤ i ∧ i < n) (.el b ver (off + i.toNat) 0) else none
      | _ => none
    | .slc e, .vs b off esz n, .int _ i => if (E.tt e).sz = esz ∧ esz ≠ 0 then grd (0 ≤ i ∧ i < n) (.ad b (off + i.toNat * esz)) else none
    | .arr n e, .ad b off, .int _ i => if (E.tt e).sz = 0 then none else grd (0 ≤ i ∧ i < n) (.ad b (off + i.toNat * (E.tt e).sz))
    | .arr n e, .el b v j off, .int _ i => if (E.tt e).sz = 0 ∨ cur s.h b v = false then none else grd (0 ≤ i ∧ i < n) (.el b v j (off + i.toNat * (E.tt e).sz))
    | .arr n e, .ra ag sz d off, .int _ i => if (E.tt e).sz = 0 then none else grd (0 ≤ i ∧ i < n) (.ra ag sz d (off + i.toNat * (E.tt e).sz))
    | _,_,_ => none
  | .index t x i => match (E.tt t).k,ev E s x,ev E s i with
    | .arr n e, .agg cs, .int _ i => if (E.tt e).sz ≠ 0 ∧ ((E.tt e).ag || (E.tt e).sz == 1) = true then (part (E.tt e).ag (i.toNat * (E.tt e).sz) (E.tt e).sz cs).bind fun d => grd (0 ≤ i ∧ i < n) d else none
    | .string, .str z, .int _ i => grd (0 ≤ i ∧ i < z.length) (.int .u8 ((z.getD i.toNat 0).toNat : Int))
    | _,_,_ => none
  | .extract x i => match ev E s x with
    | .tup ds => ds[i]?
    | _ => none
  | .makeFunc (.func f) ⟨[]⟩ ⟨cap⟩ => some (.fn f (cap.map (ev E s)))
  | .build t ⟨ps⟩ => match (E.tt t).k,(E.tt t).zero with
    | .strct fs, .agg z => if (fs.all fun p => nbad (E.tt p.2).k) = false then none else (fits E s.h (ps.map fun p => (p.1,ev E s p.2)) fs).bind fun q => if q.all (fun x => decide (x.1 + x.2.length ≤ z.length)) then some (.agg (over z q)) else none
    | .arr n e, .agg z => if nbad (E.tt e).k = false then none else (fits E s.h (ps.map fun p => (p.1,ev E s p.2)) ((List.range n).map fun i => (i * (E.tt e).sz,e))).bind fun q => if q.all (fun x => decide (x.1 + x.2.length ≤ z.length)) then some (.agg (over z q)) else none
    | _,_ => none
  | .call { callee:=.builtin .len,args:=⟨[x]⟩,argTypes:=⟨[t]⟩ } => lenD s.h (E.tt t).k (ev E s x)
  | .call { callee:=.builtin .unsafeSliceData,args:=⟨[x]⟩, .. } => sdD s.h (ev E s x)
  | .call { callee:=.builtin .min,args:=⟨[x,y]⟩, .. } => mm min (ev E s x) (ev E s y)
  | .call { callee:=.builtin .max,args:=⟨[x,y]⟩, .. } => mm max (ev E s x) (ev E s y)
  | _ => none
theorem ti_of {E : Ctx} {t : Nat} (h : (E.tt t).k ≠ .bad) : ∃ i d,E.P.info? t = some i ∧ E.P.underlying t = some d ∧ E.tt t = ⟨agOf d,i.size,i.bytes,tkOf d,i.zero.isSome,(i.zero.map ofVal).getD .unk,agOf d && eqOk E.P t d,trkOf E.P t d⟩:=by
  rw [E.htt] at h ⊢
  unfold tiOf at h ⊢
  cases h1 : E.P.info? t with
  | none => rw [h1] at h;exact absurd rfl h
  | some i =>
    cases h2 : E.P.underlying t with
    | none => rw [h1,h2] at h;exact absurd rfl h
    | some d => exact ⟨i,d,rfl,rfl,rfl⟩
section
variable {P : Program} {w : World}
theorem run_und {t : Nat} {d : TypeDesc} (h : P.underlying t = some d) : (underlying t).run P w = .ok d w:=by simp [underlying,h]
theorem run_info {t : Nat} {i : TypeInfo} (h : P.info? t = some i) : (typeInfo t).run P w = .ok i w:=by simp [typeInfo,h]
theorem run_size {t : Nat} {i : TypeInfo} (h : P.info? t = some i) : (sizeOf t).run P w = .ok i.size w:=by simp [sizeOf,run_info h]
theorem run_agg {t : Nat} {d : TypeDesc} (h : P.underlying t = some d) : (isAgg t).run P w = .ok (agOf d) w:=by
  unfold isAgg
  simp only [Sem.run_bind,run_und h,Result.andThen_ok]
  cases d <;> rfl
theorem add_at (b o n : Nat) : (⟨b,o,none⟩ : Addr).add n = ⟨b,o + n,none⟩:=by
  unfold Addr.add
  split <;> simp_all
theorem run_cells {b o n : Nat} {vs : List Value} (h : At w b o vs) (hl : vs.length = n) : (loadCells ⟨b,o,none⟩ n).run P w = .ok ⟨vs⟩ w:=by
  subst hl
  exact run_loadCells_list w _ _ fun j v hj => by rw [add_at];exact (h j v hj).1
theorem run_lv {t b o : Nat} {i : TypeInfo} {d : TypeDesc} {vs : List Value} (hi : P.info? t = some i) (hu : P.underlying t = some d) (h : At w b o vs) (hl : vs.length = i.size) (h1 : agOf d = false → i.size = 1) :
    ∃ x,(loadVar t ⟨b,o,none⟩).run P w = .ok x w ∧ Cells (agOf d) x vs:=by
  unfold loadVar
  simp only [Sem.run_bind,run_agg hu,Result.andThen_ok]
  cases ha : agOf d with
  | true =>
    simp only [if_true,Sem.run_bind,run_size hi,Result.andThen_ok,run_cells h hl,Sem.run_pure]
    exact ⟨_,rfl,rfl⟩
  | false =>
    obtain ⟨x,rfl⟩ : ∃ x,vs = [x]:=by
      match vs,hl.trans (h1 ha) with
      | [x],_ => exact ⟨x,rfl⟩
    have:=(h 0 x rfl).1
    simp only [Nat.add_zero] at this
    refine ⟨x, ?_,rfl⟩
    simp [this]
end
section
variable {H : Hp} {φ : Ph} {S : Nat → Prop} {w : World}
theorem RepVs.length : ∀ {ds : List D} {vs : List Value},RepVs H φ S w ds vs → vs.length = ds.length
  | [],vs,h => by simp only [RepVs] at h;simp [h]
  | d :: ds,vs,h => by
    simp only [RepVs] at h
    obtain ⟨v,vs',rfl,_,h⟩:=h
    simp [RepVs.length h]
theorem RepVs.drop : ∀ {ds : List D} {vs : List Value} (n : Nat),RepVs H φ S w ds vs → RepVs H φ S w (ds.drop n) (vs.drop n)
  | ds,vs,0,h => by simpa using h
  | [],vs,n + 1,h => by simp only [RepVs] at h;simp [h,RepVs]
  | d :: ds,vs,n + 1,h => by
    simp only [RepVs] at h
    obtain ⟨v,vs',rfl,_,h⟩:=h
    simpa using RepVs.drop n h
theorem RepVs.take : ∀ {ds : List D} {vs : List Value} (n : Nat),RepVs H φ S w ds vs → RepVs H φ S w (ds.take n) (vs.take n)
  | ds,vs,0,h => by simp [RepVs]
  | [],vs,n + 1,h => by simp only [RepVs] at h;simp [h,RepVs]
  | d :: ds,vs,n + 1,h => by
    simp only [RepVs] at h
    obtain ⟨v,vs',rfl,h1,h⟩:=h
    simp only [List.take_succ_cons,RepVs]
    exact ⟨v,_,rfl,h1,RepVs.take n h⟩
theorem RepVs.append : ∀ {ds es : List D} {vs us : List Value},RepVs H φ S w ds vs → RepVs H φ S w es us → RepVs H φ S w (ds ++ es) (vs ++ us)
  | [],es,vs,us,h,h2 => by simp only [RepVs] at h;simpa [h] using h2
  | d :: ds,es,vs,us,h,h2 => by
    simp only [RepVs] at h
    obtain ⟨v,vs',rfl,h1,h⟩:=h
    exact ⟨v,vs' ++ us,rfl,h1,RepVs.append h h2⟩
theorem RepVs.get : ∀ {ds : List D} {vs : List Value} (n : Nat) {d : D},RepVs H φ S w ds vs → ds[n]? = some d → ∃ v,vs[n]? = some v ∧ RepV H φ S w d v
  | [],vs,n,d,h,e => by simp at e
  | d :: ds,vs,0,d',h,e => by
    simp only [RepVs] at h
    obtain ⟨v,vs',rfl,h1,h⟩:=h
    simp only [List.getElem?_cons_zero,Option.some.injEq] at e ⊢
    exact ⟨v,rfl,e ▸ h1⟩
  | d :: ds,vs,n + 1,d',h,e => by
    simp only [RepVs] at h
    obtain ⟨v,vs',rfl,h1,h⟩:=h
    simpa using RepVs.get n h (by simpa using e)
theorem cells_rep {ag : Bool} {x : Value} {vs : List Value} {d : D} {cs : List D} (hc : Cells ag x vs) (hr : RepV H φ S w d x) (h : cellsOf ag d = some cs) : RepVs H φ S w cs vs:=by
  unfold cellsOf at h
  cases ag with
  | true =>
    simp only [if_true] at h
    cases d <;> simp only [asAgg,Option.some.injEq,reduceCtorEq] at h
    subst h
    simp only [RepV] at hr
    obtain ⟨us,rfl,hr⟩:=hr
    simp only [Cells,if_true,Value.agg.injEq,Array.mk.injEq] at hc
    exact hc ▸ hr
  | false =>
    simp only [Bool.false_eq_true,if_false,Option.some.injEq] at h
    subst h
    simp only [Cells,Bool.false_eq_true,if_false] at hc
    exact ⟨x,[],hc,hr,rfl⟩
theorem part_rep {ag : Bool} {off n : Nat} {cs : List D} {vs : List Value} {d : D} (h : RepVs H φ S w cs vs) (hp : part ag off n cs = some d) (h1 : ag = false → n = 1) :
    off + n ≤ vs.length ∧ ∃ x,Cells ag x ((vs.drop off).take n) ∧ RepV H φ S w d x:=by
  unfold part at hp
  split at hp
  · rename_i hle
    refine ⟨by rw [h.length];exact hle, ?_⟩
    simp only [Option.some.injEq] at hp
    subst hp
    cases ag with
    | true =>
      refine ⟨.agg ⟨(vs.drop off).take n⟩,rfl, ?_⟩
      simp only [if_true,RepV]
      exact ⟨_,rfl,(h.drop off).take n⟩
    | false =>
      obtain rfl:=h1 rfl
      have hlt : off < cs.length:=by omega
      obtain ⟨v,hv,hr⟩:=h.get off (d:=cs.getD off .unk) (by simp [List.getD,List.getElem?_eq_getElem hlt])
      refine ⟨v, ?_,by simpa using hr⟩
      simp only [Cells,Bool.false_eq_true,if_false]
      have : off < vs.length:=by rw [h.length];exact hlt
      rw [List.getElem?_eq_getElem this] at hv
      simp only [Option.some.injEq] at hv
      rw [List.drop_eq_getElem_cons this,hv]
      simp
  · cases hp
theorem rd_rep {ag ag' : Bool} {n sz off : Nat} {d d' : D} {x : Value} {vs : List Value} (hl : vs.length = sz) (hc : Cells ag' x vs) (hr : RepV H φ S w d x) (h : rd ag n ag' sz d off = some d') :
    off + n ≤ vs.length ∧ (ag = false → n = 1) ∧ ∃ y,Cells ag y ((vs.drop off).take n) ∧ RepV H φ S w d' y:=by
  unfold rd at h
  split at h
  · rename_i hw
    simp only [Bool.and_eq_true,beq_iff_eq] at hw
    obtain ⟨⟨⟨rfl,rfl⟩,rfl⟩,rfl⟩:=hw
    simp only [Option.some.injEq] at h
    subst h
    refine ⟨by omega,by simp,x, ?_,hr⟩
    simp only [List.drop_zero]
    rw [List.take_of_length_le (by omega)]
    exact hc
  · split at h
    · rename_i h1
      have h1' : ag = false → n = 1:=fun e => by simpa [e] using h1
      cases hcs : cellsOf ag' d with
      | none => rw [hcs] at h;cases h
      | some cs =>
        rw [hcs] at h
        obtain ⟨p1,p2⟩:=part_rep (cells_rep hc hr hcs) h h1'
        exact ⟨p1,h1',p2⟩
    · cases h
theorem At.part {b o : Nat} {vs : List Value} (h : At w b o vs) (off n : Nat) : At w b (o + off) ((vs.drop off).take n):=fun j x hj => by
  have h2 : vs[off + j]? = some x:=by
    rw [List.getElem?_take] at hj
    split at hj
    · rwa [List.getElem?_drop] at hj
    · cases hj
  have:=h (off + j) x h2
  rwa [← Nat.add_assoc] at this
theorem At.of_heap {c : Nat} {vs : List Value} {e : TypeId} {fr : Nat × Nat} (h : w.heap[c]? = some (.cells ⟨vs⟩ e fr)) (h1 : ∀ y ∈ vs,y.oneCell' = true) : At w c 0 vs:=fun j x hj => by
  refine ⟨?_,h1 x (List.mem_of_getElem? hj)⟩
  simp only [World.cell?,h]
  simpa using hj
end
theorem ldd_sound {E : Ctx} {H : Hp} {φ : Ph} {S : Nat → Prop} {w : World} (hp : HpAt H φ S w) {t : Nat} (ht : (E.tt t).k ≠ .bad) {p : D} {v : Value} (hr : RepV H φ S w p v) {d : D}
    (h : ldd H (E.tt t).ag (E.tt t).sz p = some d) : ∃ x,(Instr.loadAt t v).run E.P w = .ok x w ∧ RepV H φ S w d x:=by
  obtain ⟨i,ds,hi,hu,he⟩:=ti_of ht
  rw [he] at h
  simp only at h
  have fin : ∀ {b o : Nat} {us : List Value} {y : Value},At w b o us → us.length = i.size → (agOf ds = false → i.size = 1) → v = .pointer (some ⟨b,o,none⟩) → Cells (agOf ds) y us → RepV H φ S w d y →
      ∃ x,(Instr.loadAt t v).run E.P w = .ok x w ∧ RepV H φ S w d x:=by
    intro b o us y h1 h2 h3 h4 h5 h6
    subst h4
    obtain ⟨x,hx,hc⟩:=run_lv hi hu h1 h2 h3
    refine ⟨x,by simpa [Instr.loadAt,Instr.sureAddr] using hx, ?_⟩
    have : x = y:=by
      unfold Cells at hc h5
      cases ha : agOf ds <;> rw [ha] at hc h5 <;> simp_all
    exact this ▸ h6
  unfold ldd at h
  split at h
  · rename_i b off
    simp only [RepV] at hr
    obtain ⟨ag',sz,d0,ty,c,tt,hl,hph,hv⟩:=hr
    rw [hl] at h
    simp only at h
    obtain ⟨c',t',hph',hns,x,vs,e,lo,hi',hheap,hlen,⟨_,h1c⟩,hcells,hrep,_⟩:=hp.blk b _ hl
    rw [hph] at hph'
    simp only [Option.some.injEq,Prod.mk.injEq] at hph'
    obtain ⟨rfl,rfl⟩:=hph'
    obtain ⟨h1,h2,y,h3,h4⟩:=rd_rep hlen hcells hrep h
    exact fin (b:=c) (o:=off) (by simpa using (At.of_heap hheap h1c).part off i.size) (by simp;omega) h2 hv h3 h4
  · rename_i b ver j fo
    simp only [RepV] at hr
    obtain ⟨fz,ver',ag',sz,m,f,ty,hl,hv,hr⟩:=hr
    rw [hl] at h
    simp only at h
    split at h
    · rename_i hver
      obtain ⟨hj,c,tt,hph,hv⟩:=hr hver
      obtain ⟨_,_,htot,hn,vs,e,lo,hi',hheap,hlen,⟨_,h1c⟩,hels,_⟩:=(hp.blk b _ hl).2 c tt hph
      obtain ⟨x,hcells,hrep⟩:=hels j hj
      have hle : j * sz + sz ≤ vs.length:=by
        rw [hlen]
        calc j * sz + sz = (j + 1) * sz:=by rw [Nat.add_mul];omega
          _ ≤ tt * sz:=Nat.mul_le_mul_right _ (by omega)
      obtain ⟨h1,h2,y,h3,h4⟩:=rd_rep (by simp;omega) hcells (Rep0.toV _ _ hrep) h
      have hat:=((At.of_heap hheap h1c).part (j * sz) sz).part fo i.size
      refine fin (b:=c) (o:=j * sz + fo) (by simpa using hat) ?_ h2 hv h3 h4
      rw [List.length_take,List.length_drop]
      simp only [List.length_take,List.length_drop] at h1
      simp only [List.length_take,List.length_drop]
      omega
    · cases h
  · rename_i ag' sz d0 fo
    simp only [RepV,Rep0] at hr
    obtain ⟨b,o,x,vs,hv,hb,hlen,hat,hcells,hrep⟩:=hr
    obtain ⟨h1,h2,y,h3,h4⟩:=rd_rep hlen hcells (Rep0.toV _ _ hrep) h
    refine fin (b:=b) (o:=o + fo) (hat.part fo i.size) (by simp;omega) h2 hv h3 h4
  · cases h
section
variable {H : Hp} {φ : Ph} {S : Nat → Prop} {w : World}
mutual
theorem ofVal_rep : ∀ v : Value,Rep0 S w (ofVal v) v
  | .int .. | .bool .. | .pointer none | .map none | .nilFunc => by simp [ofVal,Rep0]
  | .string s => by simp [ofVal,Rep0]
  | .slice none n c => by
    unfold ofVal
    split
    · rename_i h;obtain ⟨rfl,rfl⟩:=h;simp [Rep0]
    · simp [Rep0]
  | .agg ⟨cs⟩ => by simp only [ofVal,Rep0];exact ⟨cs,rfl,ofVals_rep cs⟩
  | .float .. | .complex .. | .pointer (some _) | .slice (some _) .. | .map (some _) | .chan _ | .func .. | .iface .. | .nilIface | .tuple _ => by simp [ofVal,Rep0]
theorem ofVals_rep : ∀ vs : List Value,Rep0s S w (ofVals vs) vs
  | [] => by simp [ofVals,Rep0s]
  | v :: vs => by simp only [ofVals,Rep0s];exact ⟨v,vs,rfl,ofVal_rep v,ofVals_rep vs⟩
end
theorem eqIn_bool {P : Program} (d : Nat) {t : Nat} (a b : Bool) (hu : P.underlying t = some .bool) : (Op.equalIn (d + 1) t (.bool a) (.bool b)).run P w = .ok (a == b) w:=by
  unfold Op.equalIn
  simp only [Sem.run_bind,run_und hu,Result.andThen_ok,Sem.run_pure]
theorem eqIn_nn {P : Program} (d : Nat) {t e : Nat} (hu : P.underlying t = some (.pointer e)) : (Op.equalIn (d + 1) t (.pointer none) (.pointer none)).run P w = .ok true w:=by
  unfold Op.equalIn
  simp only [Sem.run_bind,run_und hu,Result.andThen_ok,Sem.run_pure,Option.isNone_none]
theorem eqIn_ns {P : Program} (d : Nat) {t e : Nat} (a : Addr) (hu : P.underlying t = some (.pointer e)) : (Op.equalIn (d + 1) t (.pointer none) (.pointer (some a))).run P w = .ok false w:=by
  unfold Op.equalIn
  simp only [Sem.run_bind,run_und hu,Result.andThen_ok,Sem.run_pure,Option.isNone_some]
theorem eqIn_sn {P : Program} (d : Nat) {t e : Nat} (a : Addr) (hu : P.underlying t = some (.pointer e)) : (Op.equalIn (d + 1) t (.pointer (some a)) (.pointer none)).run P w = .ok false w:=by
  unfold Op.equalIn
  simp only [Sem.run_bind,run_und hu,Result.andThen_ok,Sem.run_pure]
theorem run_eq {P : Program} {t : Nat} {x y : Value} {b : Bool} (h : (Op.equalIn (9999 + 1) t x y).run P w = .ok b w) : (Op.equal t x y).run P w = .ok b w:=h
theorem eqg_ok {P : Program} {op : BinOp} {t : Nat} {xo yo : Operand} {a b : Option Addr} {w : World} : (eqGuard op t xo yo (.pointer a) (.pointer b)).run P w = .ok () w:=by
  unfold eqGuard
  cases op <;> simp <;> rfl
theorem bin_sound {E : Ctx} {op : BinOp} {t : Nat} {xo yo : Operand} {x y : Value} {dx dy d : D} (hx : RepV H φ S w dx x) (hy : RepV H φ S w dy y) (h : bin (E.tt t).k op dx dy = some d) :
    ∃ v,(do eqGuard op t xo yo x y;binOp op t x y : Sem Value).run E.P w = .ok v w ∧ RepV H φ S w d v:=by
  have hg : ∀ (x y : Value),(∀ z,x ≠ .agg z) → x ≠ .nilIface → (eqGuard op t xo yo x y).run E.P w = .ok () w:=by
    intro x y h1 h2
    unfold eqGuard
    cases op <;> simp <;> cases x <;> first | rfl | (exfalso;exact h1 _ rfl) | (exfalso;exact h2 rfl) | (cases y <;> rfl)
  unfold bin at h
  split at h
  · rename_i k a k' b
    simp only [RepV,Rep0] at hx hy
    subst hx hy
    simp only [Sem.run_bind,hg (.int k a) (.int k' b) (by simp) (by simp),Result.andThen_ok]
    cases op <;> simp only [binOp,Op.shift,Op.intArith,Op.intDiv,Op.intBits,Op.intCmp,grd] at h ⊢ <;> (repeat' split at h) <;>
      simp_all [bits,RepV,Rep0] <;> (subst h) <;> simp [RepV,Rep0] <;> omega
  · rename_i a b
    simp only [RepV,Rep0] at hx hy
    subst hx hy
    simp only [Sem.run_bind,hg (.bool a) (.bool b) (by simp) (by simp),Result.andThen_ok]
    split at h
    all_goals first | cases h | skip
    all_goals
      rename_i hk
      obtain ⟨i,ds,hi,hu,he⟩:=ti_of (E:=E) (t:=t) (by rw [hk];simp)
      rw [he] at hk
      simp only at hk
      cases ds <;> simp only [tkOf,reduceCtorEq] at hk
      simp only [binOp,Sem.run_bind,run_eq (eqIn_bool 9999 a b hu),Result.andThen_ok,Sem.run_pure]
      exact ⟨_,rfl,by simp [RepV,Rep0]⟩
  · rename_i a b
    simp only [RepV,Rep0] at hx hy
    subst hx hy
    simp only [Sem.run_bind,hg (.string _) (.string _) (by simp) (by simp),Result.andThen_ok]
    split at h <;> simp only [grd,Option.some.injEq,reduceCtorEq] at h
    · subst h
      refine ⟨.bool (a == b), ?_,by simp [RepV,Rep0]⟩
      simp [binOp,Op.stringOp,ByteArray.toList_eq]
    · subst h
      refine ⟨.bool (!(a == b)), ?_,by simp [RepV,Rep0]⟩
      simp [binOp,Op.stringOp,ByteArray.toList_eq]
    · split at h
      · rename_i hl
        simp only [Option.some.injEq] at h
        subst h
        refine ⟨.string ⟨(a ++ b).toArray⟩, ?_,by simp [RepV,Rep0]⟩
        have hl' : ¬ ((((a.length + b.length : Nat) : Int)) > IntKind.max .i64):=by
          simp only [IntKind.max,IntKind.signed,IntKind.bits,if_true]
          omega
        have he : (⟨a.toArray⟩ : ByteArray) ++ ⟨b.toArray⟩ = ⟨(a ++ b).toArray⟩:=by
          apply ByteArray.ext
          simp [ByteArray.data_append]
        simp only [binOp,Op.stringOp,ByteArray.size,List.size_toArray,if_neg hl',Sem.run_pure,he]
      · cases h
  all_goals first | cases h | skip
  · simp only [RepV,Rep0] at hx hy
    subst hx hy
    simp only [Sem.run_bind,hg (.pointer _) (.pointer _) (by simp) (by simp),Result.andThen_ok]
    split at h
    all_goals first | cases h | skip
    all_goals
      rename_i hk
      obtain ⟨i,ds,hi,hu,he⟩:=ti_of (E:=E) (t:=t) (by rw [hk];simp)
      rw [he] at hk
      simp only at hk
      cases ds <;> simp only [tkOf,reduceCtorEq] at hk
      simp only [binOp,Sem.run_bind,run_eq (eqIn_nn 9999 hu),Result.andThen_ok,Sem.run_pure]
      exact ⟨_,rfl,by simp [RepV,Rep0]⟩
  · simp only [RepV,Rep0] at hx hy
    obtain ⟨ag,sz,d0,ty,c,tt,_,_,hx⟩:=hx
    subst hx hy
    simp only [Sem.run_bind,hg (.pointer _) (.pointer _) (by simp) (by simp),Result.andThen_ok]
    split at h
    all_goals first | cases h | skip
    all_goals
      rename_i hk
      obtain ⟨i,ds,hi,hu,he⟩:=ti_of (E:=E) (t:=t) (by rw [hk];simp)
      rw [he] at hk
      simp only at hk
      cases ds <;> simp only [tkOf,reduceCtorEq] at hk
      simp only [binOp,Sem.run_bind,run_eq (eqIn_sn 9999 _ hu),Result.andThen_ok,Sem.run_pure]
      exact ⟨_,rfl,by simp [RepV,Rep0]⟩
  · simp only [RepV,Rep0] at hx hy
    obtain ⟨ag,sz,d0,ty,c,tt,_,_,hy⟩:=hy
    subst hx hy
    simp only [Sem.run_bind,hg (.pointer _) (.pointer _) (by simp) (by simp),Result.andThen_ok]
    split at h
    all_goals first | cases h | skip
    all_goals
      rename_i hk
      obtain ⟨i,ds,hi,hu,he⟩:=ti_of (E:=E) (t:=t) (by rw [hk];simp)
      rw [he] at hk
      simp only at hk
      cases ds <;> simp only [tkOf,reduceCtorEq] at hk
      simp only [binOp,Sem.run_bind,run_eq (eqIn_ns 9999 _ hu),Result.andThen_ok,Sem.run_pure]
      exact ⟨_,rfl,by simp [RepV,Rep0]⟩
theorem un_sound {E : Ctx} {op : UnOp} {x : Value} {dx d : D} (hx : RepV H φ S w dx x) (h : un op dx = some d) : ∃ v,(Op.unary op x).run E.P w = .ok v w ∧ RepV H φ S w d v:=by
  unfold un at h
  split at h
  · rename_i k n
    simp only [RepV,Rep0] at hx
    subst hx
    cases op <;> simp only [Option.some.injEq,reduceCtorEq] at h <;> subst h <;> simp [Op.unary,Op.intArith,Op.intBits,bits,RepV,Rep0]
  · simp only [RepV,Rep0] at hx
    subst hx
    cases op <;> simp only [Option.some.injEq,reduceCtorEq] at h <;> subst h <;> simp [Op.unary,RepV,Rep0]
  · cases h
theorem kind_of {E : Ctx} {t : Nat} {k : TK} (h : (E.tt t).k = k) (hb : k ≠ .bad) : ∃ i d,E.P.info? t = some i ∧ E.P.underlying t = some d ∧ tkOf d = k ∧ (E.tt t).ag = agOf d ∧ (E.tt t).sz = i.size:=by
  obtain ⟨i,d,h1,h2,h3⟩:=ti_of (E:=E) (t:=t) (by rw [h];exact hb)
  refine ⟨i,d,h1,h2, ?_, ?_, ?_⟩
  · rw [h3] at h;exact h
  · rw [h3]
  · rw [h3]
theorem und_slc {E : Ctx} {t e : Nat} (h : (E.tt t).k = .slc e) : E.P.underlying t = some (.slice e):=by
  obtain ⟨i,d,h1,h2,h3,_⟩:=kind_of h (by simp)
  cases d <;> simp [tkOf] at h3
  exact h3 ▸ h2
theorem und_uptr {E : Ctx} {t : Nat} (h : (E.tt t).k = .uptr) : E.P.underlying t = some .unsafePointer:=by
  obtain ⟨i,d,h1,h2,h3,_⟩:=kind_of h (by simp)
  cases d <;> simp [tkOf] at h3
  exact h2
theorem und_ptr {E : Ctx} {t e : Nat} (h : (E.tt t).k = .ptr e) : E.P.underlying t = some (.pointer e):=by
  obtain ⟨i,d,h1,h2,h3,_⟩:=kind_of h (by simp)
  cases d <;> simp [tkOf] at h3
  exact h3 ▸ h2
theorem und_str {E : Ctx} {t : Nat} (h : (E.tt t).k = .string) : E.P.underlying t = some .string:=by
  obtain ⟨i,d,h1,h2,h3,_⟩:=kind_of h (by simp)
  cases d <;> simp [tkOf] at h3
  exact h2
theorem und_arr {E : Ctx} {t n e : Nat} (h : (E.tt t).k = .arr n e) : E.P.underlying t = some (.array n e):=by
  obtain ⟨i,d,h1,h2,h3,_⟩:=kind_of h (by simp)
  cases d <;> simp [tkOf] at h3
  obtain ⟨rfl,rfl⟩:=h3
  exact h2
theorem und_int {E : Ctx} {t : Nat} {k : IntKind} (h : (E.tt t).k = .int k) : E.P.underlying t = some (.int k):=by
  obtain ⟨i,d,h1,h2,h3,_⟩:=kind_of h (by simp)
  cases d <;> simp [tkOf] at h3
  exact h3 ▸ h2
theorem und_strct {E : Ctx} {t : Nat} {fs : List (Nat × Nat)} (h : (E.tt t).k = .strct fs) : ∃ F : Array Field,E.P.underlying t = some (.struct F) ∧ fs = F.toList.map fun f => (f.offset,f.type):=by
  obtain ⟨i,d,h1,h2,h3,_⟩:=kind_of h (by simp)
  cases d <;> simp [tkOf] at h3
  exact ⟨_,h2,h3.symm⟩
theorem sz_of {E : Ctx} {t : Nat} (h : (E.tt t).sz ≠ 0) : ∃ i d,E.P.info? t = some i ∧ E.P.underlying t = some d ∧ (E.tt t).sz = i.size ∧ (E.tt t).ag = agOf d:=by
  have hk : (E.tt t).k ≠ .bad:=by
    intro e
    apply h
    rw [E.htt] at e ⊢
    unfold tiOf at e ⊢
    split at e
    · rename_i d _ _;cases d <;> simp [tkOf] at e
    · rfl
  obtain ⟨i,d,h1,h2,h3⟩:=ti_of hk
  exact ⟨i,d,h1,h2,by rw [h3],by rw [h3]⟩
theorem len_sound {E : Ctx} {t : Nat} {ty : TypeId} {x : Value} {dx d : D} (hx : RepV H φ S w dx x) (h : lenD H (E.tt t).k dx = some d) :
    ∃ v,(Builtin.len_ #[t] ty #[x]).run E.P w = .ok v w ∧ RepV H φ S w d v:=by
  have e0 : (#[t] : Array TypeId)[0]? = some t:=rfl
  have e1 : (#[x] : Array Value)[0]? = some x:=rfl
  unfold lenD at h
  unfold Builtin.len_
  simp only [e0,e1,Sem.run_bind]
  split at h
  · rename_i hk
    simp only [RepV,Rep0] at hx
    obtain ⟨a,cap,rfl,_⟩:=hx
    simp only [Option.some.injEq] at h
    subst h
    simp only [run_und (und_slc hk),Result.andThen_ok,Sem.run_pure]
    exact ⟨_,rfl,by simp [RepV,Rep0,goInt]⟩
  · rename_i hk
    simp only [RepV] at hx
    obtain ⟨fz,ver',ag,sz,m,f,ty,hl,hv,hr⟩:=hx
    rw [hl] at h
    simp only at h
    split at h
    · rename_i hver
      obtain ⟨_,a,cap,rfl,_⟩:=hr hver
      simp only [Option.some.injEq] at h
      subst h
      simp only [run_und (und_slc hk),Result.andThen_ok,Sem.run_pure]
      exact ⟨_,rfl,by simp [RepV,Rep0,goInt]⟩
    · cases h
  · rename_i hk
    simp only [RepV,Rep0] at hx
    subst hx
    simp only [Option.some.injEq] at h
    subst h
    simp only [run_und (und_slc hk),Result.andThen_ok,Sem.run_pure]
    exact ⟨_,rfl,by simp [RepV,Rep0,goInt]⟩
  · rename_i hk
    simp only [RepV] at hx
    obtain ⟨_,_,_,_,_,_,a,cap,_,_,rfl,_⟩:=hx
    simp only [Option.some.injEq] at h
    subst h
    simp only [run_und (und_slc hk),Result.andThen_ok,Sem.run_pure]
    exact ⟨_,rfl,by simp [RepV,Rep0,goInt]⟩
  · rename_i hk
    simp only [RepV,Rep0] at hx
    subst hx
    simp only [Option.some.injEq] at h
    subst h
    simp only [run_und (und_str hk),Result.andThen_ok,Sem.run_pure]
    exact ⟨_,rfl,by simp [RepV,Rep0,goInt,ByteArray.size]⟩
  · rename_i hk
    simp only [Option.some.injEq] at h
    subst h
    simp only [run_und (und_arr hk),Result.andThen_ok,Sem.run_pure]
    exact ⟨_,rfl,by simp [RepV,Rep0,goInt]⟩
  · cases h
theorem bds_sound {P : Program} {b : Bool} {n cap : Nat} {lo hi : Option D} {vlo vhi : Option Value} {p : Int × Int} (hc : n ≤ cap)
    (hlo : ∀ d,lo = some d → ∃ v,vlo = some v ∧ RepV H φ S w d v) (hlo0 : lo = none → vlo = none)
    (hhi : ∀ d,hi = some d → ∃ v,vhi = some v ∧ RepV H φ S w d v) (hhi0 : hi = none → vhi = none)
    (h : bds n lo hi = some p) (h1 : 0 ≤ p.1) (h2 : p.1 ≤ p.2) (h3 : p.2 ≤ n) :
    (Instr.sliceBounds b n cap vlo vhi none).run P w = .ok (p.1.toNat,p.2.toNat,cap) w:=by
  unfold Instr.sliceBounds
  unfold bds at h
  split at h
  · rw [hlo0 rfl,hhi0 rfl]
    simp only [Option.some.injEq] at h
    subst h
    simp
  · rename_i k l
    obtain ⟨v,rfl,hv⟩:=hlo _ rfl
    simp only [RepV,Rep0] at hv
    subst hv
    rw [hhi0 rfl]
    simp only [Option.some.injEq] at h
    subst h
    simp only at h1 h2 h3
    have : (0 ≤ l ∧ l ≤ (n : Int)):=⟨h1,h2⟩
    simp [Instr.sliceBound,asIntOf,this]
  · rename_i k l
    obtain ⟨v,rfl,hv⟩:=hhi _ rfl
    simp only [RepV,Rep0] at hv
    subst hv
    rw [hlo0 rfl]
    simp only [Option.some.injEq] at h
    subst h
    simp only at h1 h2 h3
    have : (0 ≤ l ∧ l ≤ (cap : Int)):=⟨h2,by omega⟩
    simp [Instr.sliceBound,asIntOf,this]
  · rename_i k l k' l'
    obtain ⟨v,rfl,hv⟩:=hhi _ rfl
    simp only [RepV,Rep0] at hv
    subst hv
    obtain ⟨v,rfl,hv⟩:=hlo _ rfl
    simp only [RepV,Rep0] at hv
    subst hv
    simp only [Option.some.injEq] at h
    subst h
    simp only at h1 h2 h3
    have e1 : (0 ≤ l' ∧ l' ≤ (cap : Int)):=⟨by omega,by omega⟩
    have e2 : (0 ≤ l ∧ l ≤ (l'.toNat : Int)):=⟨by omega,by omega⟩
    simp [Instr.sliceBound,asIntOf,e1,e2]
    intro hh
    omega
  · cases h
end
end Go.Proofs.YtakaojkfipnfcaaGreatDoor.Lv
