/- The abstract machine: slices, places, fields, and all operations that only reckon or read. The abstract machine: the operations that make memory or write it. -/
import Derived.Test.YtakaojkfipnfcaaGreatDoorG00
import Derived.Laws.StructEq
import Derived.ChangeKeysEq
import Derived.Lib.Builder
import Derived.Lib.UnsafeStr
import Derived.Laws.Externs
set_option linter.unusedVariables false
set_option linter.unusedSimpArgs false
set_option maxRecDepth 100000
set_option maxHeartbeats 4000000
namespace Go.Proofs.YtakaojkfipnfcaaGreatDoor.Lv
open Go Go.RowKit
section
variable {H : Hp} {φ : Ph} {S : Nat → Prop} {w : World}
theorem opt_map {E : Ctx} {s : St} {ρ : Operand → Value} (hev : ∀ x,RepV H φ S w (ev E s x) (ρ x)) (o : Option Operand) :
    (∀ d,o.map (ev E s) = some d → ∃ v,o.map ρ = some v ∧ RepV H φ S w d v) ∧ (o.map (ev E s) = none → o.map ρ = none):=by
  cases o with
  | none => exact ⟨fun d h => by simp at h,fun _ => rfl⟩
  | some x => exact ⟨fun d h => by simp only [Option.map_some,Option.some.injEq] at h;subst h;exact ⟨_,rfl,hev x⟩,fun h => by simp at h⟩
theorem cut_sound {E : Ctx} {t : Nat} {x : Value} {dx d : D} {lo hi : Option D} {vlo vhi : Option Value} (hx : RepV H φ S w dx x)
    (hlo : ∀ d,lo = some d → ∃ v,vlo = some v ∧ RepV H φ S w d v) (hlo0 : lo = none → vlo = none)
    (hhi : ∀ d,hi = some d → ∃ v,vhi = some v ∧ RepV H φ S w d v) (hhi0 : hi = none → vhi = none)
    (hk : ((E.tt t).k = .string ∧ ∃ z,dx = .str z) ∨ ∃ e,(E.tt t).k = .slc e ∧ (∀ z,dx ≠ .str z) ∧ (∀ ag sz n f,dx = .ro ag sz n f → (E.tt e).sz = sz) ∧
      (∀ b ver off n,dx = .sl b ver off n → ∃ fz ag sz m f ty,lookB H b = some (.row fz ver ag sz m f ty) ∧ (E.tt e).sz = sz) ∧ (∀ b off esz n,dx = .vs b off esz n → (E.tt e).sz = esz))
    (hz : ∀ e,(E.tt t).k = .slc e → (E.tt e).sz ≠ 0)
    (h : cutD dx lo hi = some d) : ∃ v,(Instr.sliceAt t x vlo vhi none).run E.P w = .ok v w ∧ RepV H φ S w d v:=by
  have bind_of : ∀ {α : Type} {o : Option α} {g : α → Option D} {d : D},o.bind g = some d → ∃ p,o = some p ∧ g p = some d:=by
    intro α o g d h
    cases o with
    | none => cases h
    | some p => exact ⟨p,rfl,h⟩
  have grd_of : ∀ {c : Prop} [Decidable c] {x d : D},grd c x = some d → c ∧ x = d:=by
    intro c _ x d h
    unfold grd at h
    split at h
    · rename_i hc;exact ⟨hc,Option.some.inj h⟩
    · cases h
  rcases hk with ⟨hk,z,rfl⟩ | ⟨e,hk,hns,hro,hsl,hvs⟩
  · simp only [cutD] at h
    obtain ⟨p,hp,h⟩:=bind_of h
    obtain ⟨⟨h1,h2,h3⟩,rfl⟩:=grd_of h
    simp only [RepV,Rep0] at hx
    subst hx
    unfold Instr.sliceAt
    simp only [Sem.run_bind,run_und (und_str hk),Result.andThen_ok]
    unfold Instr.slice
    have hb:=bds_sound (P:=E.P) (b:=false) (Nat.le_refl z.length) hlo hlo0 hhi hhi0 hp h1 h2 h3
    have hsz : (⟨z.toArray⟩ : ByteArray).size = z.length:=by simp [ByteArray.size]
    simp only [Sem.run_bind,run_und (und_str hk),Result.andThen_ok,Option.isSome_none,Bool.false_eq_true,if_false,Sem.run_pure,hsz,hb]
    refine ⟨_,rfl, ?_⟩
    simp only [RepV,Rep0]
    congr 1
    apply ByteArray.ext
    apply Array.ext'
    simp [ByteArray.data_extract,List.drop_take]
  · have hk':=und_slc hk
    obtain ⟨i,ds,hi1,hu1,hsz,_⟩:=sz_of (hz e hk)
    cases dx <;> simp only [cutD,reduceCtorEq] at h
    case str z => exact absurd rfl (hns z)
    case nils =>
      obtain ⟨p,hp,h⟩:=bind_of h
      obtain ⟨⟨h1,h2⟩,rfl⟩:=grd_of h
      simp only [RepV,Rep0] at hx
      subst hx
      unfold Instr.sliceAt
      simp only [Sem.run_bind,run_und hk',Result.andThen_ok]
      unfold Instr.slice
      have hb:=bds_sound (P:=E.P) (b:=true) (Nat.le_refl 0) hlo hlo0 hhi hhi0 hp (by omega) (by omega) (by omega)
      simp only [Sem.run_bind,run_und hk',Result.andThen_ok,hb,run_size hi1,Sem.run_pure,h1,h2]
      exact ⟨_,rfl,by simp [RepV,Rep0]⟩
    case vs b off esz n =>
      obtain ⟨p,hp,h⟩:=bind_of h
      obtain ⟨⟨h1,h2,h3⟩,rfl⟩:=grd_of h
      have hs:=hvs _ _ _ _ rfl
      simp only [RepV] at hx
      obtain ⟨ag,sz,d0,ty,c,t0,a,cap,hl,hph,rfl,hn,ha,hsome⟩:=hx
      obtain ⟨a',rfl⟩:=Option.isSome_iff_exists.1 hsome
      unfold Instr.sliceAt
      simp only [Sem.run_bind,run_und hk',Result.andThen_ok]
      unfold Instr.slice
      have hb:=bds_sound (P:=E.P) (b:=true) hn hlo hlo0 hhi hhi0 hp h1 h2 h3
      simp only [Sem.run_bind,run_und hk',Result.andThen_ok,hb,run_size hi1,Sem.run_pure]
      refine ⟨_,rfl, ?_⟩
      simp only [RepV]
      refine ⟨ag,sz,d0,ty,c,t0,_,_,hl,hph,rfl,by omega,fun hpos => ?_, ?_⟩
      · rw [if_neg (by omega)]
        have:=ha (by omega)
        cases this
        simp [add_at]
        rw [← hs,hsz]
      · split <;> rfl
    case ro ag sz n f =>
      obtain ⟨p,hp,h⟩:=bind_of h
      obtain ⟨⟨h1,h2,h3⟩,rfl⟩:=grd_of h
      have hs:=hro _ _ _ _ rfl
      simp only [RepV,Rep0] at hx
      obtain ⟨a,cap,rfl,hn,hcap,hx⟩:=hx
      unfold Instr.sliceAt
      simp only [Sem.run_bind,run_und hk',Result.andThen_ok]
      unfold Instr.slice
      have hb:=bds_sound (P:=E.P) (b:=true) hn hlo hlo0 hhi hhi0 hp h1 h2 h3
      simp only [Sem.run_bind,run_und hk',Result.andThen_ok,hb,run_size hi1,Sem.run_pure]
      refine ⟨_,rfl, ?_⟩
      simp only [RepV,Rep0]
      refine ⟨_,_,rfl,by omega,by omega,fun hpos => ?_⟩
      obtain ⟨b,o,rfl,hb,hel⟩:=hx (by omega)
      refine ⟨b,o + p.1.toNat * i.size, ?_,hb,fun j hj => ?_⟩
      · rw [if_neg (by omega)]
        simp [add_at]
      · obtain ⟨y,vs,g1,g2,g3,g4⟩:=hel (p.1.toNat + j) (by omega)
        refine ⟨y,vs,g1, ?_,g3,g4⟩
        rw [hsz] at hs
        subst hs
        rw [show o + p.1.toNat * i.size + j * i.size = o + (p.1.toNat + j) * i.size from by rw [Nat.add_mul];omega]
        exact g2
    case sl b ver off n =>
      obtain ⟨p,hp,h⟩:=bind_of h
      obtain ⟨⟨h1,h2,h3⟩,rfl⟩:=grd_of h
      obtain ⟨fz,ag,sz,m,f,ty,hl,hs⟩:=hsl _ _ _ _ rfl
      simp only [RepV] at hx
      obtain ⟨fz',ver',ag',sz',m',f',ty',hl',hv,hx⟩:=hx
      rw [hl] at hl'
      simp only [Option.some.injEq,Blk.row.injEq] at hl'
      obtain ⟨rfl,rfl,rfl,rfl,rfl,rfl,rfl⟩:=hl'
      obtain ⟨hm,a,cap,rfl,hn,ha0,ha1⟩:=hx rfl
      unfold Instr.sliceAt
      simp only [Sem.run_bind,run_und hk',Result.andThen_ok]
      unfold Instr.slice
      have hb:=bds_sound (P:=E.P) (b:=true) hn hlo hlo0 hhi hhi0 hp h1 h2 h3
      simp only [Sem.run_bind,run_und hk',Result.andThen_ok,hb,run_size hi1,Sem.run_pure]
      refine ⟨_,rfl, ?_⟩
      simp only [RepV]
      refine ⟨fz,ver,ag,sz,m,f,ty,hl,Nat.le_refl _,fun _ => ⟨by omega,_,_,rfl,by omega,fun hph => ?_,fun c tot hph => ?_⟩⟩
      · obtain ⟨rfl,rfl⟩:=ha0 hph
        exact ⟨by simp,by omega⟩
      · obtain ⟨g1,g2,g3⟩:=ha1 c tot hph
        refine ⟨by omega, ?_,fun hc => ?_⟩
        · split <;> simp [g2]
        · rw [if_neg (by omega),g3 (by omega)]
          rw [hsz] at hs
          subst hs
          simp [add_at,Nat.add_mul]
theorem grd_of {c : Prop} [Decidable c] {x d : D} (h : grd c x = some d) : c ∧ x = d:=by
  unfold grd at h
  split at h
  · rename_i hc;exact ⟨hc,Option.some.inj h⟩
  · cases h
theorem bind_of {α : Type} {o : Option α} {g : α → Option D} {d : D} (h : o.bind g = some d) : ∃ p,o = some p ∧ g p = some d:=by
  cases o with
  | none => cases h
  | some p => exact ⟨p,rfl,h⟩
theorem el_cur {b ver i fo : Nat} {v : Value} (h : ∃ fz ver' ag sz m f ty,lookB H b = some (.row fz ver' ag sz m f ty) ∧ ver ≤ ver' ∧ (ver = ver' → i < m ∧ ∃ c t,φ b = some (c,t) ∧ v = .pointer (some ⟨c,i * sz + fo,none⟩)))
    (hc : cur H b ver = true) : ∃ fz ag sz m f ty,lookB H b = some (.row fz ver ag sz m f ty) ∧ i < m ∧ ∃ c t,φ b = some (c,t) ∧ v = .pointer (some ⟨c,i * sz + fo,none⟩):=by
  obtain ⟨fz,ver',ag,sz,m,f,ty,hl,hv,h⟩:=h
  simp only [cur,hl,beq_iff_eq] at hc
  subst hc
  obtain ⟨h1,h2⟩:=h rfl
  exact ⟨fz,ag,sz,m,f,ty,hl,h1,h2⟩
theorem fld_sound {E : Ctx} {t i fo' ft : Nat} {fs : List (Nat × Nat)} (hk : (E.tt t).k = .strct fs) (hf : fs[i]? = some (fo',ft)) (hz : (E.tt ft).sz ≠ 0) (c o : Nat) :
    (Instr.fieldAt t (.pointer (some ⟨c,o,none⟩)) i).run E.P w = .ok (.pointer (some ⟨c,o + fo',none⟩)) w:=by
  obtain ⟨F,hu,rfl⟩:=und_strct hk
  obtain ⟨i',d',hi',_,hs,_⟩:=sz_of hz
  rw [hs] at hz
  rw [List.getElem?_map] at hf
  cases hF : F.toList[i]? with
  | none => rw [hF] at hf;cases hf
  | some f =>
    rw [hF] at hf
    simp only [Option.map_some,Option.some.injEq,Prod.mk.injEq] at hf
    obtain ⟨rfl,rfl⟩:=hf
    have hF' : F[i]? = some f:=by simpa using hF
    unfold Instr.fieldAt
    simp only [Sem.run_bind,run_und hu,Result.andThen_ok,hF',Instr.sureAddr,Sem.run_pure,fieldPlace,run_size hi',if_neg hz,add_at]
theorem arr_ix {E : Ctx} {t n e c o : Nat} {k : IntKind} {i : Int} (hk : (E.tt t).k = .arr n e) (hz : (E.tt e).sz ≠ 0) (h1 : 0 ≤ i) (h2 : i < n) :
    (Instr.indexAt t (.pointer (some ⟨c,o,none⟩)) (.int k i)).run E.P w = .ok (.pointer (some ⟨c,o + i.toNat * (E.tt e).sz,none⟩)) w:=by
  obtain ⟨i',d',hi',_,hs,_⟩:=sz_of hz
  unfold Instr.indexAt
  simp only [asIntOf,Sem.run_bind,Sem.run_pure,Result.andThen_ok,run_und (und_arr hk),Instr.sureAddr,if_pos (show 0 ≤ i ∧ i < (n : Int) from ⟨h1,h2⟩),run_size hi',add_at,hs]
theorem ixa_sound {E : Ctx} {t : Nat} {s : St} {ρ : Operand → Value} {x ix : Operand} (hp : HpAt s.h φ S w) (hev : ∀ x,RepV s.h φ S w (ev E s x) (ρ x)) {d : D} (h : pv E s (.indexAddr t x ix) = some d) :
    ∃ v,(Instr.indexAt t (ρ x) (ρ ix)).run E.P w = .ok v w ∧ RepV s.h φ S w d v:=by
  have hx:=hev x
  have hix:=hev ix
  simp only [pv] at h
  split at h
  · rename_i e ag sz n f k i hk e1 e2
    rw [e1] at hx
    rw [e2] at hix
    split at h
    · rename_i hsz
      obtain ⟨hsz,hz⟩:=hsz
      obtain ⟨⟨h1,h2⟩,rfl⟩:=grd_of h
      simp only [RepV,Rep0] at hx hix
      obtain ⟨a,cap,hx1,hn,hcap,hx⟩:=hx
      rw [hx1,hix]
      obtain ⟨b,o,rfl,hb,hel⟩:=hx (by omega)
      obtain ⟨y,vs,g1,g2,g3,g4⟩:=hel i.toNat (by omega)
      unfold Instr.indexAt
      obtain ⟨i',d',hi',_,hs,_⟩:=sz_of (E:=E) (t:=e) (by rw [hsz];exact hz)
      simp only [asIntOf,Sem.run_bind,Sem.run_pure,Result.andThen_ok,run_und (und_slc hk),if_pos (show 0 ≤ i ∧ i < (n : Int) from ⟨h1,h2⟩),run_size hi',add_at]
      refine ⟨_,rfl, ?_⟩
      simp only [RepV,Rep0]
      rw [hs] at hsz
      subst hsz
      exact ⟨b,o + i.toNat * i'.size,y,vs,by simp,hb,g1,g2,g3,g4⟩
    · cases h
  · rename_i e b ver off n k i hk e1 e2
    rw [e1] at hx
    rw [e2] at hix
    simp only [RepV] at hx
    obtain ⟨fz,ver',ag,sz,m,f,ty,hl,hv,hx⟩:=hx
    rw [hl] at h
    simp only at h
    split at h
    · rename_i hc
      obtain ⟨rfl,hsz,hz⟩:=hc
      obtain ⟨⟨h1,h2⟩,rfl⟩:=grd_of h
      simp only [RepV,Rep0] at hix
      obtain ⟨hm,a,cap,hx1,hn,ha0,ha1⟩:=hx rfl
      rw [hx1,hix]
      have hph : φ b ≠ none:=fun e => by have:=(ha0 e).2;omega
      obtain ⟨⟨c,tot⟩,hph⟩:=Option.ne_none_iff_exists'.1 hph
      obtain ⟨g1,g2,g3⟩:=ha1 c tot hph
      rw [g3 (by omega)]
      unfold Instr.indexAt
      obtain ⟨i',d',hi',_,hs,_⟩:=sz_of (E:=E) (t:=e) (by rw [hsz];exact hz)
      simp only [asIntOf,Sem.run_bind,Sem.run_pure,Result.andThen_ok,run_und (und_slc hk),if_pos (show 0 ≤ i ∧ i < (n : Int) from ⟨h1,h2⟩),run_size hi',add_at]
      refine ⟨_,rfl, ?_⟩
      simp only [RepV]
      refine ⟨fz,ver,ag,sz,m,f,ty,hl,Nat.le_refl _,fun _ => ⟨by omega,c,tot,hph, ?_⟩⟩
      rw [hs] at hsz
      subst hsz
      simp [Nat.add_mul]
    · cases h
  · rename_i e b off esz n k i hk e1 e2
    rw [e1] at hx
    rw [e2] at hix
    split at h
    · rename_i hsz
      obtain ⟨hsz,hz⟩:=hsz
      obtain ⟨⟨h1,h2⟩,rfl⟩:=grd_of h
      simp only [RepV,Rep0] at hx hix
      obtain ⟨ag,sz,d0,ty,c,t0,a,cap,hl,hph,hx1,hn,ha,_⟩:=hx
      rw [hx1,hix,ha (by omega)]
      unfold Instr.indexAt
      obtain ⟨i',d',hi',_,hs,_⟩:=sz_of (E:=E) (t:=e) (by rw [hsz];exact hz)
      simp only [asIntOf,Sem.run_bind,Sem.run_pure,Result.andThen_ok,run_und (und_slc hk),if_pos (show 0 ≤ i ∧ i < (n : Int) from ⟨h1,h2⟩),run_size hi',add_at]
      refine ⟨_,rfl, ?_⟩
      simp only [RepV]
      rw [hs] at hsz
      subst hsz
      exact ⟨ag,sz,d0,ty,c,t0,hl,hph,rfl⟩
    · cases h
  · rename_i n e b off k i hk e1 e2
    rw [e1] at hx
    rw [e2] at hix
    split at h
    · cases h
    · rename_i hz
      obtain ⟨⟨h1,h2⟩,rfl⟩:=grd_of h
      simp only [RepV,Rep0] at hx hix
      obtain ⟨ag,sz,d0,ty,c,t',hl,hph,hv⟩:=hx
      rw [hv,hix,arr_ix hk hz h1 h2]
      exact ⟨_,rfl,ag,sz,d0,ty,c,t',hl,hph,rfl⟩
  · rename_i n e b v j off k i hk e1 e2
    rw [e1] at hx
    rw [e2] at hix
    split at h
    · cases h
    · rename_i hz
      obtain ⟨⟨h1,h2⟩,rfl⟩:=grd_of h
      simp only [RepV,Rep0] at hx hix
      obtain ⟨hz,hcu⟩:=not_or.1 hz
      obtain ⟨fz,ag,sz,m,f,ty,hl,h3,c,t',hph,hv⟩:=el_cur hx (by simpa using hcu)
      rw [hv,hix,arr_ix hk hz h1 h2]
      exact ⟨_,rfl,fz,v,ag,sz,m,f,ty,hl,Nat.le_refl _,fun _ => ⟨h3,c,t',hph,by simp [Nat.add_assoc]⟩⟩
  · rename_i n e ag sz d0 off k i hk e1 e2
    rw [e1] at hx
    rw [e2] at hix
    split at h
    · cases h
    · rename_i hz
      obtain ⟨⟨h1,h2⟩,rfl⟩:=grd_of h
      simp only [RepV,Rep0] at hx hix
      obtain ⟨b,o,y,vs,hv,g⟩:=hx
      rw [hv,hix,arr_ix hk hz h1 h2]
      exact ⟨_,rfl,b,o,y,vs,by simp [Nat.add_assoc],g⟩
  · cases h
theorem part_run {P : Program} {t : Nat} {i : TypeInfo} {d : TypeDesc} {off : Nat} {vs : List Value} {x : Value} (hi : P.info? t = some i) (hu : P.underlying t = some d) (hle : off + i.size ≤ vs.length)
    (hc : Cells (agOf d) x ((vs.drop off).take i.size)) (h1 : agOf d = false → i.size = 1) : (Go.part t ⟨vs⟩ off).run P w = .ok x w:=by
  unfold Go.part
  simp only [Sem.run_bind,run_agg hu,Result.andThen_ok]
  unfold Cells at hc
  cases ha : agOf d with
  | true =>
    rw [ha] at hc
    simp only [if_true] at hc
    simp only [if_true,Sem.run_bind,run_size hi,Result.andThen_ok,Sem.run_pure,hc]
    congr 2
    apply Array.ext'
    simp
  | false =>
    rw [ha] at hc
    simp only [Bool.false_eq_true,if_false] at hc
    rw [h1 ha] at hc hle
    have hlt : off < vs.length:=by omega
    rw [List.drop_eq_getElem_cons hlt] at hc
    simp only [List.take_succ_cons,List.take_zero,List.cons.injEq,and_true] at hc
    simp [hlt,hc]
def eqParts {P : Program} (e : Nat) (xs ys : List Value) : List (Nat × Nat) → Sem Bool
  | [] => pure true
  | (off,t) :: r => do
    if !(← Op.equalIn e t (← Go.part t ⟨xs⟩ off) (← Go.part t ⟨ys⟩ off)) then pure false else eqParts (P:=P) e xs ys r
theorem eqL_sound {E : Ctx} {f : Nat → D → D → Option Bool} {e : Nat} (hf : ∀ t dx dy x y b,RepV H φ S w dx x → RepV H φ S w dy y → f t dx dy = some b → (Op.equalIn e t x y).run E.P w = .ok b w) {xs ys : List Value} {cs ds : List D} (hx : RepVs H φ S w cs xs) (hy : RepVs H φ S w ds ys) :
    ∀ (ps : List (Nat × Nat)) (b : Bool),eqL E.tt f ps cs ds = some b → (eqParts (P:=E.P) e xs ys ps).run E.P w = .ok b w
  | [],b,h => by
    simp only [eqL,Option.some.injEq] at h
    subst h
    rfl
  | (off,t) :: r,b,h => by
    simp only [eqL] at h
    split at h
    · rename_i hc
      obtain ⟨hz,hag⟩:=hc
      have bo : ∀ {α β : Type} {o : Option α} {g : α → Option β} {d : β},o.bind g = some d → ∃ p,o = some p ∧ g p = some d:=by
        intro α β o g d h
        cases o with
        | none => cases h
        | some p => exact ⟨p,rfl,h⟩
      obtain ⟨a,ha,h⟩:=bo h
      obtain ⟨c,hcc,h⟩:=bo h
      obtain ⟨p,hp,h⟩:=bo h
      obtain ⟨q,hq,h⟩:=Option.map_eq_some_iff.1 h
      obtain ⟨i,d,h1,h2,h3,h4⟩:=sz_of hz
      have hag' : (E.tt t).ag = false → (E.tt t).sz = 1:=fun e => by simpa [e] using hag
      obtain ⟨l1,x1,c1,r1⟩:=part_rep hx ha hag'
      obtain ⟨l2,x2,c2,r2⟩:=part_rep hy hcc hag'
      rw [h3,h4] at *
      have e1:=part_run (w:=w) h1 h2 l1 c1 hag'
      have e2:=part_run (w:=w) h1 h2 l2 c2 hag'
      simp only [eqParts,Sem.run_bind,e1,e2,Result.andThen_ok,hf t a c x1 x2 p r1 r2 hp,Sem.run_ite,Sem.run_pure]
      cases p
      · simp at h ⊢;exact h
      · simp at h ⊢;rw [h] at hq;exact eqL_sound hf hx hy r b hq
    · cases h
theorem eqF_parts {P : Program} (e : Nat) (xs ys : List Value) : ∀ (L : List Field),(∀ f ∈ L,f.name ≠ "_") → ∀ w,(Op.eqFields e ⟨xs⟩ ⟨ys⟩ L).run P w = (eqParts (P:=P) e xs ys (L.map fun f => (f.offset,f.type))).run P w
  | [],_,w => rfl
  | g :: r,h,w => by
    have hn : g.name ≠ "_":=h g (by simp)
    have ih:=eqF_parts (P:=P) e xs ys r fun f hf => h f (List.mem_cons_of_mem _ hf)
    simp only [Op.eqFields,List.map_cons,eqParts,if_pos hn,Sem.run_bind,Sem.run_ite,ih]
theorem eqI_parts {P : Program} (e t c : Nat) (xs ys : List Value) : ∀ (L : List Nat) (w : World),(Op.eqItems e t c ⟨xs⟩ ⟨ys⟩ L).run P w = (eqParts (P:=P) e xs ys (L.map fun i => (i * c,t))).run P w
  | [],w => rfl
  | g :: r,w => by
    have ih:=eqI_parts (P:=P) e t c xs ys r
    simp only [Op.eqItems,List.map_cons,eqParts,Sem.run_bind,Sem.run_ite,ih]
theorem eqD_sound {E : Ctx} : ∀ (d e : Nat),d ≤ e → ∀ (t : Nat) (dx dy : D) (x y : Value) (b : Bool),RepV H φ S w dx x → RepV H φ S w dy y → eqD E.tt d t dx dy = some b → (Op.equalIn e t x y).run E.P w = .ok b w
  | 0,_,_,t,dx,dy,x,y,b,hx,hy,h => by simp [eqD] at h
  | d + 1,0,hde,t,dx,dy,x,y,b,hx,hy,h => by omega
  | d + 1,e + 1,hde,t,dx,dy,x,y,b,hx,hy,h => by
    have hk : (E.tt t).k ≠ .bad:=by
      intro hk
      simp [eqD,hk] at h
    obtain ⟨i,ds,hi,hu,he⟩:=ti_of hk
    have ih:=eqD_sound (E:=E) d e (by omega)
    simp only [eqD] at h
    split at h
    · rename_i kk k a k' c hk'
      rw [he] at hk'
      cases ds <;> simp only [tkOf,reduceCtorEq] at hk'
      split at h
      · rename_i hkk
        subst hkk
        simp only [RepV,Rep0,Option.some.injEq] at hx hy h
        subst hx hy h
        unfold Op.equalIn
        simp only [Sem.run_bind,run_und hu,Result.andThen_ok,if_true,Sem.run_pure]
      · cases h
    · rename_i a c hk'
      rw [he] at hk'
      cases ds <;> simp only [tkOf,reduceCtorEq] at hk'
      simp only [RepV,Rep0,Option.some.injEq] at hx hy h
      subst hx hy h
      exact eqIn_bool e a c hu
    · rename_i a c hk'
      rw [he] at hk'
      cases ds <;> simp only [tkOf,reduceCtorEq] at hk'
      simp only [RepV,Rep0,Option.some.injEq] at hx hy h
      subst hx hy h
      unfold Op.equalIn
      simp only [Sem.run_bind,run_und hu,Result.andThen_ok,Sem.run_pure]
      congr 1
      rw [beq_toListBytes]
      simp [ByteArray.toList_eq]
    · rename_i fs xs ys hk'
      split at h
      · rename_i ho
        rw [he] at hk' ho
        simp only at hk' ho
        cases ds <;> simp only [tkOf,reduceCtorEq,TK.strct.injEq] at hk'
        rename_i F
        subst hk'
        simp only [agOf,Bool.true_and,eqOk,Bool.and_eq_true,Bool.not_eq_true',List.all_eq_true] at ho
        obtain ⟨⟨ho1,ho2⟩,ho3⟩:=ho
        simp only [RepV] at hx hy
        obtain ⟨vx,rfl,hx⟩:=hx
        obtain ⟨vy,rfl,hy⟩:=hy
        have key:=eqL_sound (e:=e) ih hx hy _ _ h
        have hfo : E.P.fieldsOf t = F:=by simp [Program.fieldsOf,hu]
        rw [run_equalIn_struct w e t ⟨vx⟩ ⟨vy⟩ (by rw [hfo];exact hu) ho1,hfo]
        rw [← key]
        exact eqF_parts e vx vy F.toList (fun f hf => by have:=ho3 f hf;simpa using this) w
      · cases h
    · rename_i n el xs ys hk'
      split at h
      · rename_i ho
        rw [he] at hk' ho
        simp only at hk' ho
        cases ds <;> simp only [tkOf,reduceCtorEq,TK.arr.injEq] at hk'
        obtain ⟨rfl,rfl⟩:=hk'
        simp only [RepV] at hx hy
        obtain ⟨vx,rfl,hx⟩:=hx
        obtain ⟨vy,rfl,hy⟩:=hy
        have key:=eqL_sound (e:=e) ih hx hy _ _ h
        obtain ⟨ie,de,g1,g2,g3,g4⟩:=sz_of ho.2
        rw [run_equalIn_array w e ⟨vx⟩ ⟨vy⟩ hu g1,eqI_parts]
        rw [g3] at key
        simp only [Program.cellsOf,g1,Option.map_some,Option.getD_some]
        exact key
      · cases h
    · cases h
theorem eqOr_sound {E : Ctx} {op : BinOp} {t : Nat} {xo yo : Operand} {x y : Value} {dx dy d : D} (hx : RepV H φ S w dx x) (hy : RepV H φ S w dy y) (h : eqOr E op t dx dy = some d) :
    ∃ v,(do eqGuard op t xo yo x y;binOp op t x y : Sem Value).run E.P w = .ok v w ∧ RepV H φ S w d v:=by
  unfold eqOr at h
  split at h
  · rename_i xs ys
    have hx':=hx
    have hy':=hy
    simp only [RepV] at hx hy
    obtain ⟨vx,rfl,hx⟩:=hx
    obtain ⟨vy,rfl,hy⟩:=hy
    have gk : (E.tt t).eqo = true → E.P.eqGuardType E.P.depth t = false:=fun he => by
      have hk : (E.tt t).k ≠ .bad:=by
        intro e
        rw [E.htt] at e he
        unfold tiOf at e he
        split at e
        · rename_i d _ _;cases d <;> simp [tkOf] at e
        · rename_i hno
          revert he
          cases h1 : E.P.info? t <;> cases h2 : E.P.underlying t <;> simp
          exact (hno _ _ h1 h2).elim
      obtain ⟨i,ds,_,_,h3⟩:=ti_of hk
      rw [h3] at he
      simp only [eqOk,Bool.and_eq_true,Bool.not_eq_true'] at he
      exact he.2.1.2
    split at h
    · split at h
      · rename_i ho
        obtain ⟨b,hb,rfl⟩:=Option.map_eq_some_iff.1 h
        have h1:=eqD_sound (E:=E) 4 (9999 + 1) (by omega) t _ _ _ _ b hx' hy' hb
        simp only [Sem.run_bind,run_eqGuard_agg w _ t xo yo ⟨vx⟩ ⟨vy⟩ (gk ho),Result.andThen_ok]
        refine ⟨.bool b, ?_,by simp [RepV,Rep0]⟩
        rw [run_eql_struct]
        rw [show (10000 : Nat) = 9999 + 1 from rfl,h1]
        rfl
      · cases h
    · split at h
      · rename_i ho
        obtain ⟨b,hb,rfl⟩:=Option.map_eq_some_iff.1 h
        have h1:=eqD_sound (E:=E) 4 (9999 + 1) (by omega) t _ _ _ _ b hx' hy' hb
        simp only [Sem.run_bind,run_eqGuard_agg w _ t xo yo ⟨vx⟩ ⟨vy⟩ (gk ho),Result.andThen_ok]
        refine ⟨.bool !b, ?_,by simp [RepV,Rep0]⟩
        rw [run_neq_struct]
        rw [show (10000 : Nat) = 9999 + 1 from rfl,h1]
        rfl
      · cases h
    · cases h
  · rename_i b o b' o'
    split at h
    · rename_i e hk
      split at h
      · rename_i hc
        obtain ⟨rfl,rfl,hz⟩:=hc
        simp only [Option.some.injEq] at h
        subst h
        simp only [RepV] at hx hy
        obtain ⟨_,_,_,_,c,t1,_,h1,rfl⟩:=hx
        obtain ⟨_,_,_,_,c2,t2,_,h2,rfl⟩:=hy
        rw [h1] at h2
        cases h2
        obtain ⟨i',d',hi',_⟩:=sz_of hz
        refine ⟨.bool false, ?_,by simp [RepV,Rep0]⟩
        simp only [Sem.run_bind,eqg_ok,Result.andThen_ok]
        exact Lib.run_neq_ptr_same w ⟨c,o,none⟩ (und_ptr hk) hi'
      · cases h
    · cases h
  · exact bin_sound hx hy h
theorem index_sound {E : Ctx} {t : Nat} {s : St} {ρ : Operand → Value} {x ix : Operand} (hev : ∀ x,RepV s.h φ S w (ev E s x) (ρ x)) {d : D} (h : pv E s (.index t x ix) = some d) :
    ∃ v,(Instr.index t (ρ x) (ρ ix)).run E.P w = .ok v w ∧ RepV s.h φ S w d v:=by
  have hx:=hev x
  have hix:=hev ix
  simp only [pv] at h
  split at h
  · rename_i n e cs k i hk e1 e2
    rw [e1] at hx
    rw [e2] at hix
    split at h
    · rename_i hag
      obtain ⟨hz,hag⟩:=hag
      obtain ⟨d',hp,h⟩:=bind_of h
      obtain ⟨⟨h1,h2⟩,rfl⟩:=grd_of h
      simp only [RepV,Rep0] at hx hix
      obtain ⟨vs,hv,hx⟩:=hx
      have hag' : (E.tt e).ag = false → (E.tt e).sz = 1:=fun e => by simpa [e] using hag
      obtain ⟨hle,y,hc,hr⟩:=part_rep hx hp hag'
      rw [hv,hix]
      unfold Instr.index
      simp only [asIntOf,Sem.run_bind,Sem.run_pure,Result.andThen_ok,run_und (und_arr hk),if_pos (show 0 ≤ i ∧ i < (n : Int) from ⟨h1,h2⟩)]
      obtain ⟨i',d',hi',hu',hs,ha⟩:=sz_of hz
      rw [hs,ha] at hc
      rw [hs] at hle
      rw [hs,ha] at hag'
      simp only [run_size hi',Result.andThen_ok]
      exact ⟨y,part_run hi' hu' hle hc hag',hr⟩
    · cases h
  · rename_i z k i hk e1 e2
    rw [e1] at hx
    rw [e2] at hix
    obtain ⟨⟨h1,h2⟩,rfl⟩:=grd_of h
    simp only [RepV,Rep0] at hx hix
    rw [hx,hix]
    unfold Instr.index
    have hlt : i.toNat < z.length:=by omega
    have hg : (⟨z.toArray⟩ : ByteArray)[i.toNat]? = some z[i.toNat]:=by
      rw [getElem?_pos (⟨z.toArray⟩ : ByteArray) i.toNat (by simpa [ByteArray.size] using hlt)]
      rfl
    simp only [asIntOf,Sem.run_bind,Sem.run_pure,Result.andThen_ok,run_und (und_str hk),if_pos h1,hg]
    exact ⟨_,rfl,by simp [RepV,Rep0,List.getD,hlt]⟩
  · cases h
theorem field_sound {E : Ctx} {t j : Nat} {s : St} {ρ : Operand → Value} {x : Operand} (hev : ∀ x,RepV s.h φ S w (ev E s x) (ρ x)) {d : D} (h : pv E s (.field t x j) = some d) :
    ∃ v,(Instr.field t (ρ x) j).run E.P w = .ok v w ∧ RepV s.h φ S w d v:=by
  have hx:=hev x
  simp only [pv] at h
  split at h
  · rename_i fs hk
    obtain ⟨F,hu,rfl⟩:=und_strct hk
    split at h
    · rename_i fo ft hf
      split at h
      · rename_i hag
        obtain ⟨hz,hag⟩:=hag
        obtain ⟨cs,hcs,h⟩:=bind_of h
        have hag' : (E.tt ft).ag = false → (E.tt ft).sz = 1:=fun e => by simpa [e] using hag
        cases hd : ev E s x <;> rw [hd] at hcs <;> simp only [asAgg,Option.some.injEq,reduceCtorEq] at hcs
        rw [hd] at hx
        subst hcs
        simp only [RepV] at hx
        obtain ⟨vs,hv,hx⟩:=hx
        obtain ⟨hle,y,hc,hr⟩:=part_rep hx h hag'
        obtain ⟨i',d',hi',hu',hs,ha⟩:=sz_of hz
        rw [hs,ha] at hc
        rw [hs] at hle
        rw [hs,ha] at hag'
        rw [List.getElem?_map] at hf
        cases hF : F.toList[j]? with
        | none => rw [hF] at hf;cases hf
        | some f =>
          rw [hF] at hf
          simp only [Option.map_some,Option.some.injEq,Prod.mk.injEq] at hf
          obtain ⟨rfl,rfl⟩:=hf
          have hF' : F[j]? = some f:=by simpa using hF
          rw [hv]
          unfold Instr.field
          simp only [Sem.run_bind,run_und hu,Result.andThen_ok,hF',asAgg,Sem.run_pure]
          exact ⟨y,part_run hi' hu' hle hc hag',hr⟩
      · cases h
    · cases h
  · cases h
theorem fa_sound {E : Ctx} {t j : Nat} {s : St} {ρ : Operand → Value} {x : Operand} (hev : ∀ x,RepV s.h φ S w (ev E s x) (ρ x)) {d : D} (h : pv E s (.fieldAddr t x j) = some d) :
    ∃ v,(Instr.fieldAt t (ρ x) j).run E.P w = .ok v w ∧ RepV s.h φ S w d v:=by
  have hx:=hev x
  simp only [pv] at h
  split at h
  · rename_i fs hk
    split at h
    · rename_i fo ft hf
      split at h
      · cases h
      · rename_i hz
        split at h
        · rename_i b off e
          rw [e] at hx
          simp only [RepV] at hx
          obtain ⟨ag,sz,d0,ty,c,t',hl,hph,hv⟩:=hx
          simp only [Option.some.injEq] at h
          subst h
          rw [hv,fld_sound hk hf hz]
          exact ⟨_,rfl,ag,sz,d0,ty,c,t',hl,hph,rfl⟩
        · rename_i b v i off e
          rw [e] at hx
          simp only [RepV] at hx
          split at h
          · rename_i hcu
            obtain ⟨fz,ag,sz,m,f,ty,hl,h3,c,t',hph,hv⟩:=el_cur hx hcu
            simp only [Option.some.injEq] at h
            subst h
            rw [hv,fld_sound hk hf hz]
            exact ⟨_,rfl,fz,v,ag,sz,m,f,ty,hl,Nat.le_refl _,fun _ => ⟨h3,c,t',hph,by simp [Nat.add_assoc]⟩⟩
          · cases h
        · rename_i ag sz d0 off e
          rw [e] at hx
          simp only [RepV,Rep0] at hx
          obtain ⟨b,o,y,vs,hv,g⟩:=hx
          simp only [Option.some.injEq] at h
          subst h
          rw [hv,fld_sound hk hf hz]
          exact ⟨_,rfl,b,o,y,vs,by simp [Nat.add_assoc],g⟩
        · cases h
    · cases h
  · cases h
theorem bytes_run {P : Program} {src e dst : Nat} (hs : P.underlying src = some (.slice e)) (he : P.underlying e = some (.int .u8)) (hd : P.underlying dst = some .string) {n cap : Nat} {a : Option Addr} {f : Nat → D}
    (hu : ∀ i,i < n → isU8 (f i) = true) (h : 0 < n → ∃ b o,a = some ⟨b,o,none⟩ ∧ ∀ i,i < n → ∃ x,w.cell? ⟨b,o + i,none⟩ = some x ∧ Rep0 S w (f i) x) :
    (convert src dst (.slice a n cap)).run P w = .ok (.string ⟨((List.range n).map fun i => u8Of (f i)).toArray⟩) w:=by
  rcases Nat.eq_zero_or_pos n with rfl | hn
  · cases a with
    | none => rw [run_convert_bytes_nil w src e hs he 0 cap dst hd];rfl
    | some ad =>
      rw [run_convert_bytes_string w src dst e _ 0 cap hs he hd]
      simp [Conv.bytesToString,loadCells,loadCellsFrom]
      rfl
  · obtain ⟨b,o,rfl,hel⟩:=h hn
    have hval : ∀ i,i < n → ∃ k,f i = .int .u8 k:=fun i hi => by
      have:=hu i hi
      cases hf : f i <;> rw [hf] at this <;> simp [isU8] at this
      rename_i k m
      cases k <;> simp [isU8] at this
      exact ⟨m,rfl⟩
    rw [run_convert_bytes_arg w src e hs he b o n cap ((List.range n).map fun i => match f i with | .int _ k => k | _ => 0) (by simp) (fun i hi => ?_) dst hd]
    · simp only [strOfNums,List.map_map]
      congr 3
      apply congrArg
      apply List.map_congr_left
      intro i hi
      obtain ⟨k,hk⟩:=hval i (by simpa using hi)
      simp [hk,u8Of]
    · obtain ⟨x,hx,hr⟩:=hel i hi
      obtain ⟨k,hk⟩:=hval i hi
      rw [hk] at hr
      simp only [Rep0] at hr
      rw [hx,hr]
      simp [List.getD,hi,hk]
theorem conv_sound {E : Ctx} {src t : Nat} {x : Value} {dx d : D} (hp : HpAt H φ S w) (hx : RepV H φ S w dx x) (h : conv E H src t dx = some d) :
    ∃ v,(convert src t x).run E.P w = .ok v w ∧ RepV H φ S w d v:=by
  unfold conv at h
  by_cases hsrc : (E.tt src).k = .bad
  · rw [if_pos hsrc] at h
    cases h
  rw [if_neg hsrc] at h
  obtain ⟨i0,d0,hi0,hu0,he0⟩:=ti_of hsrc
  split at h
  · rename_i k k' n hk
    simp only [RepV,Rep0] at hx
    subst hx
    simp only [Option.some.injEq] at h
    subst h
    unfold convert
    simp only [Sem.run_bind,run_und hu0,run_und (und_int hk),Result.andThen_ok]
    cases d0 <;> simp [Conv.intToInt,RepV,Rep0]
  · rename_i s hk
    simp only [RepV,Rep0] at hx
    subst hx
    simp only [Option.some.injEq] at h
    subst h
    unfold convert
    simp only [Sem.run_bind,run_und hu0,run_und (und_str hk),Result.andThen_ok]
    cases d0 <;> simp [RepV,Rep0]
  · rename_i dx _ _ hk hns
    clear hns
    split at h
    · rename_i e hks
      split at h
      · rename_i hke
        have hus:=und_slc hks
        have hue:=und_int hke
        cases dx <;> simp only [bstr,reduceCtorEq] at h
        case nils =>
          simp only [RepV,Rep0] at hx
          subst hx
          simp only [Option.some.injEq] at h
          subst h
          rw [run_convert_bytes_nil w src e hus hue 0 0 t (und_str hk)]
          exact ⟨_,rfl,by simp only [RepV,Rep0];rfl⟩
        case ro ag sz n f =>
          obtain ⟨hu,rfl⟩:=grd_of h
          simp only [RepV,Rep0] at hx
          obtain ⟨a,cap,rfl,hn,hcap,hx⟩:=hx
          refine ⟨_,bytes_run (S:=S) hus hue (und_str hk) hu fun hpos => ?_,by simp only [RepV,Rep0]⟩
          obtain ⟨b,o,rfl,hb,hel⟩:=hx hpos
          refine ⟨b,o,rfl,fun i hi => ?_⟩
          obtain ⟨y,vs,g1,g2,g3,g4⟩:=hel i hi
          have hui:=hu i hi
          have g4':=g4
          cases hf : f i <;> rw [hf] at hui g4 <;> simp [isU8] at hui
          simp only [Rep0] at g4
          subst g4
          cases ag <;> simp only [Cells,if_true,Bool.false_eq_true,if_false,reduceCtorEq] at g3
          subst g3
          simp only [List.length_singleton] at g1
          subst g1
          have hcell:=(g2 0 _ rfl).1
          simp only [Nat.mul_one,Nat.add_zero] at hcell
          first | exact ⟨_,hcell,g4'⟩ | exact ⟨_,hcell,by simp [Rep0]⟩
        case sl b ver off n =>
          simp only [RepV] at hx
          obtain ⟨fz,ver',ag,sz,m,f,ty,hl,hv,hx⟩:=hx
          rw [hl] at h
          simp only at h
          split at h
          · rename_i hver
            subst hver
            obtain ⟨hu,rfl⟩:=grd_of h
            obtain ⟨hm,a,cap,rfl,hn,ha0,ha1⟩:=hx rfl
            refine ⟨_,bytes_run (S:=S) (f:=fun i => f (off + i)) hus hue (und_str hk) hu fun hpos => ?_,by simp only [RepV,Rep0]⟩
            have hph : φ b ≠ none:=fun e => by have:=(ha0 e).2;omega
            obtain ⟨⟨c,tot⟩,hph⟩:=Option.ne_none_iff_exists'.1 hph
            obtain ⟨q1,q2,q3⟩:=ha1 c tot hph
            obtain ⟨_,_,htot,hn2,vs,e2,lo,hi',hheap,hlen,⟨_,h1c⟩,hels,_⟩:=(hp.blk b _ hl).2 c tot hph
            refine ⟨c,off * sz,q3 (by omega),fun i hi => ?_⟩
            obtain ⟨y,g3,g4⟩:=hels (off + i) (by omega)
            have hui:=hu i hi
            have g4':=g4
            cases hf : f (off + i) <;> rw [hf] at hui g4 <;> simp [isU8] at hui
            simp only [Rep0] at g4
            subst g4
            cases ag <;> simp only [Cells,if_true,Bool.false_eq_true,if_false,reduceCtorEq] at g3
            have hlt : (off + i + 1) * sz ≤ tot * sz:=Nat.mul_le_mul_right _ (by omega)
            rw [Nat.add_mul] at hlt
            have h1 : sz = 1:=by
              have:=congrArg List.length g3
              simp only [List.length_take,List.length_drop,List.length_singleton] at this
              omega
            subst h1
            have hat:=(At.of_heap hheap h1c).part ((off + i) * 1) 1
            rw [g3] at hat
            have hcell:=(hat 0 _ rfl).1
            simp only [Nat.zero_add,Nat.add_zero,Nat.mul_one] at hcell
            simp only [Nat.mul_one]
            first | exact ⟨_,hcell,g4'⟩ | exact ⟨_,hcell,by simp [Rep0]⟩
          · cases h
        case vs b off esz n =>
          simp only [RepV] at hx
          obtain ⟨ag,sz,d1,ty,c,t1,a,cap,hl,hph,rfl,hn,hpos,_⟩:=hx
          rw [hl] at h
          split at h
          · rename_i sz' cs ty' heq
            simp only [Option.some.injEq,Blk.var.injEq] at heq
            obtain ⟨rfl,rfl,rfl,rfl⟩:=heq
            split at h
            · rename_i hc
              obtain ⟨rfl,hle⟩:=hc
              obtain ⟨hu,rfl⟩:=grd_of h
              refine ⟨_,bytes_run (S:=S) (f:=fun i => cs.getD (off + i) .unk) hus hue (und_str hk) hu fun hp0 => ?_,by simp only [RepV,Rep0]⟩
              obtain ⟨c2,t2,hph2,_,x,vs,e2,lo,hi',hheap,hlen,⟨_,h1c⟩,hcl,hrep,_⟩:=hp.blk b _ hl
              rw [hph] at hph2
              simp only [Option.some.injEq,Prod.mk.injEq] at hph2
              obtain ⟨rfl,rfl⟩:=hph2
              refine ⟨c,off,hpos (by omega),fun i hi => ?_⟩
              simp only [Cells,if_true] at hcl
              subst hcl
              simp only [RepV] at hrep
              obtain ⟨vs',hvs,hrep⟩:=hrep
              simp only [Value.agg.injEq,Array.mk.injEq] at hvs
              subst hvs
              have hg : cs[off + i]? = some (cs.getD (off + i) .unk):=by
                rw [List.getD_eq_getElem?_getD,List.getElem?_eq_getElem (by omega)];rfl
              obtain ⟨v,hv1,hv2⟩:=hrep.get (off + i) hg
              have hat:=(At.of_heap hheap h1c) (off + i) v hv1
              simp only [Nat.zero_add] at hat
              have hui:=hu i hi
              refine ⟨v,hat.1, ?_⟩
              cases hf : cs.getD (off + i) .unk <;> rw [hf] at hui hv2 <;> simp [isU8] at hui
              simp only [RepV] at hv2
              exact hv2
            · cases h
          · cases h
      · cases h
    · cases h
  · rename_i b off hk
    split at h
    · rename_i e ag sz d1 ty hks hl
      split at h
      · rename_i hc
        simp only [Option.some.injEq] at h
        subst h
        have hx':=hx
        simp only [RepV] at hx
        obtain ⟨_,_,_,_,c,t1,hl1,h1,rfl⟩:=hx
        obtain ⟨c2,t2,h2,_,y,vs,e2,lo,hi',hheap,hlen,_⟩:=hp.blk b _ hl
        rw [h1] at h2
        cases h2
        obtain ⟨j,d',hj,_,hjs,_⟩:=sz_of hc.1
        have hsh : w.shape? c = some (e2,vs.length):=by simp [World.shape?,hheap]
        exact ⟨_,Lib.run_to_unsafe w ⟨c,off,none⟩ (und_ptr hks) (und_uptr hk) hj (by rw [← hjs];exact hc.1) hsh (by rw [hlen];exact hc.2),hx'⟩
      · cases h
    · cases h
  · rename_i u b off hk
    split at h
    · rename_i ag sz d1 ty hks hl
      split at h
      · rename_i hc
        obtain ⟨hty,hz,hlies⟩:=hc
        simp only [Option.some.injEq] at h
        subst h
        have hx':=hx
        simp only [RepV] at hx
        obtain ⟨_,_,_,_,c,t1,hl1,h1,rfl⟩:=hx
        obtain ⟨c2,t2,h2,_,y,vs,e2,lo,hi',hheap,hlen,_,_,_,he⟩:=hp.blk b _ hl
        rw [h1] at h2
        cases h2
        obtain rfl : e2 = ty:=he.resolve_left hty
        obtain ⟨j,d',hj,_,hjs,_⟩:=sz_of hz
        have hsh : w.shape? c = some (e2,vs.length):=by simp [World.shape?,hheap]
        exact ⟨_,Lib.run_from_unsafe w ⟨c,off,none⟩ (und_uptr hks) (und_ptr hk) hj hsh (by rw [hlen];exact hlies),hx'⟩
      · cases h
    · cases h
  · cases h
theorem mm_sound (f : Int → Int → Int) (g : Value → Value → Sem Value) (hg : ∀ k k' x y,g (.int k x) (.int k' y) = pure (.int k (f x y))) {P : Program} {x y : Value} {dx dy d : D} (hx : RepV H φ S w dx x) (hy : RepV H φ S w dy y) (h : mm f dx dy = some d) :
    ∃ v,(g x y).run P w = .ok v w ∧ RepV H φ S w d v:=by
  unfold mm at h
  split at h
  · simp only [RepV,Rep0] at hx hy
    subst hx hy
    simp only [Option.some.injEq] at h
    subst h
    rw [hg]
    exact ⟨_,rfl,by simp [RepV,Rep0]⟩
  · cases h
theorem ev_map {E : Ctx} {s : St} {ρ : Operand → Value} (hev : ∀ x,RepV s.h φ S w (ev E s x) (ρ x)) : ∀ l : List Operand,RepVs s.h φ S w (l.map (ev E s)) (l.map ρ)
  | [] => rfl
  | x :: l => ⟨_,_,rfl,hev x,ev_map hev l⟩
theorem pv_sound0 {E : Ctx} {s : St} {a : Act} (hp : HpAt s.h φ S w) (hev : ∀ x,RepV s.h φ S w (ev E s x) (a.eval x)) {o : Oper} {d : D} (h : pv E s o.op = some d) (hb : ∀ t ps,o.op ≠ .build t ps) :
    ∃ v,(execOp a.eval o).run E.P w = .ok (.value v) w ∧ RepV s.h φ S w d v:=by
  have lift : ∀ {m : Sem Value},(∃ v,m.run E.P w = .ok v w ∧ RepV s.h φ S w d v) → ∃ v,(do pure (Next.value (← m)) : Sem Next).run E.P w = .ok (.value v) w ∧ RepV s.h φ S w d v:=by
    rintro m ⟨v,hv,hr⟩
    exact ⟨v,by simp [hv],hr⟩
  obtain ⟨dst,op,ty,pos,after,guard⟩:=o
  simp only at h hb
  unfold execOp
  cases op <;> first | (simp only [pv,reduceCtorEq] at h;done) | skip
  case move x =>
    simp only [pv,Option.some.injEq] at h
    subst h
    exact ⟨_,rfl,hev x⟩
  case assign x =>
    simp only [pv,Option.some.injEq] at h
    subst h
    exact ⟨_,rfl,hev x⟩
  case pick c x y =>
    simp only [pv] at h
    split at h
    · rename_i b e
      have hc:=hev c
      rw [e] at hc
      simp only [RepV,Rep0] at hc
      simp only [Option.some.injEq] at h
      subst h
      simp only [hc,asBool,Sem.run_bind,Sem.run_pure,Result.andThen_ok]
      cases b
      · exact ⟨_,rfl,by simpa using hev y⟩
      · exact ⟨_,rfl,by simpa using hev x⟩
    · cases h
  case build t ps => exact absurd rfl (hb t ps)
  case load t x =>
    simp only [pv] at h
    refine lift ?_
    split at h
    · cases h
    · rename_i hk
      exact ldd_sound hp (by simpa using hk) (hev x) h
  case nilCheck x =>
    dsimp only
    have hx:=hev x
    simp only [pv] at h
    split at h
    · rename_i b off e
      rw [e] at hx
      simp only [Option.some.injEq] at h
      subst h
      obtain ⟨ag,sz,d0,ty,c,t',hl,hph,hv⟩:=(show ∃ ag sz d ty c t,lookB s.h b = some (.var ag sz d ty) ∧ φ b = some (c,t) ∧ a.eval x = .pointer (some ⟨c,off,none⟩) by simpa only [RepV] using hx)
      rw [hv] at hx ⊢
      exact ⟨_,rfl,hx⟩
    · rename_i b v i off e
      rw [e] at hx
      split at h
      · rename_i hcu
        simp only [Option.some.injEq] at h
        subst h
        obtain ⟨fz,ag,sz,m,f,ty,hl,h3,c,t',hph,hv⟩:=el_cur (by simpa only [RepV] using hx) hcu
        rw [hv] at hx ⊢
        exact ⟨_,rfl,hx⟩
      · cases h
    · rename_i ag sz d0 off e
      rw [e] at hx
      simp only [Option.some.injEq] at h
      subst h
      obtain ⟨b,o,y,vs,hv,g⟩:=(show ∃ b o y vs,a.eval x = .pointer (some ⟨b,o + off,none⟩) ∧ S b ∧ vs.length = sz ∧ At w b o vs ∧ Cells ag y vs ∧ Rep0 S w d0 y by simpa only [RepV,Rep0] using hx)
      rw [hv] at hx ⊢
      exact ⟨_,rfl,hx⟩
    · cases h
  case binOp op t x y yt =>
    simp only [pv] at h
    exact lift (eqOr_sound (hev x) (hev y) h)
  case unOp op t x =>
    simp only [pv] at h
    exact lift (un_sound (hev x) h)
  case convert src t x =>
    simp only [pv] at h
    exact lift (conv_sound hp (hev x) h)
  case makeFunc f first cap =>
    dsimp only
    obtain ⟨first⟩:=first
    obtain ⟨cap⟩:=cap
    cases f <;> cases first <;> simp only [pv,Option.some.injEq,reduceCtorEq] at h
    rename_i fid
    subst h
    refine ⟨.func (.func fid) #[] ⟨cap.map a.eval⟩,by simp [Instr.makeFunc], ?_⟩
    simp only [RepV]
    exact ⟨_,rfl,ev_map hev cap⟩
  case slice t x lo hi mx =>
    cases mx with
    | some m => simp only [pv,reduceCtorEq] at h
    | none =>
      obtain ⟨l1,l2⟩:=opt_map hev lo
      obtain ⟨h1,h2⟩:=opt_map hev hi
      refine lift ?_
      simp only [pv] at h
      split at h
      · rename_i hk
        split at h
        · rename_i z e
          exact cut_sound (e ▸ hev x) l1 l2 h1 h2 (.inl ⟨hk,z,rfl⟩) (fun e he => by rw [hk] at he;cases he) h
        · cases h
      · rename_i e hk
        split at h
        · cases h
        · rename_i hz
          have hz' : ∀ e',(E.tt t).k = .slc e' → (E.tt e').sz ≠ 0:=fun e' he => by rw [hk] at he;cases he;exact hz
          split at h
          · cases h
          · split at h
            · rename_i ag sz n f e1
              split at h
              · rename_i hs
                exact cut_sound (hev x) l1 l2 h1 h2 (.inr ⟨e,hk,⟨fun z he => (by rw [e1] at he;cases he),fun _ _ _ _ he => (by rw [e1] at he;cases he;exact hs),fun _ _ _ _ he => (by rw [e1] at he;cases he),fun _ _ _ _ he => (by rw [e1] at he;cases he)⟩⟩) hz' h
              · cases h
            · rename_i b ver off n e1
              split at h
              · rename_i fz v' ag sz m f ty hl
                split at h
                · rename_i hs
                  obtain ⟨rfl,hs⟩:=hs
                  exact cut_sound (hev x) l1 l2 h1 h2 (.inr ⟨e,hk,⟨fun z he => (by rw [e1] at he;cases he),fun _ _ _ _ he => (by rw [e1] at he;cases he),fun _ _ _ _ he => (by rw [e1] at he;cases he;exact ⟨fz,ag,sz,m,f,ty,hl,hs⟩),fun _ _ _ _ he => (by rw [e1] at he;cases he)⟩⟩) hz' h
                · cases h
              · cases h
            · rename_i b off esz n e1
              split at h
              · rename_i hs
                exact cut_sound (hev x) l1 l2 h1 h2 (.inr ⟨e,hk,⟨fun z he => (by rw [e1] at he;cases he),fun _ _ _ _ he => (by rw [e1] at he;cases he),fun _ _ _ _ he => (by rw [e1] at he;cases he),fun _ _ _ _ he => (by rw [e1] at he;cases he;exact hs)⟩⟩) hz' h
              · cases h
            · rename_i h3 _ h4 h5 h6
              exact cut_sound (hev x) l1 l2 h1 h2 (.inr ⟨e,hk,h3,fun ag sz n f he => (h4 ag sz n f he).elim,fun b ver off n he => (h5 b ver off n he).elim,fun b off esz n he => (h6 b off esz n he).elim⟩) hz' h
      · rename_i n e hk
        split at h
        · rename_i b off e1
          split at h
          · cases h
          · rename_i hz
            simp only [Option.some.injEq] at h
            subst h
            have hx:=hev x
            rw [e1] at hx
            simp only [RepV] at hx
            obtain ⟨ag,sz,d0,ty,c,t0,hl,hph,hx1⟩:=hx
            obtain ⟨i',d',hi',_,hs,_⟩:=sz_of (E:=E) (t:=e) hz
            rw [hx1]
            unfold Instr.sliceAt
            simp only [Option.map_none,Instr.sureAddr,Sem.run_bind,Sem.run_pure,Result.andThen_ok,run_und (und_arr hk)]
            have hb : (Instr.sliceBounds false n n none none none).run E.P w = .ok (0,n,n) w:=by simp [Instr.sliceBounds,run_sliceBound]
            simp only [hb,Result.andThen_ok,run_size hi',Sem.run_pure]
            refine ⟨_,rfl, ?_⟩
            simp only [RepV]
            refine ⟨ag,sz,d0,ty,c,t0,_,_,hl,hph,rfl,by omega,fun hp => ?_, ?_⟩
            · rw [if_neg (by omega)]
              simp [add_at]
            · rfl
        · cases h
      · cases h
  case fieldAddr t x i => exact lift (fa_sound hev h)
  case field t x i => exact lift (field_sound hev h)
  case indexAddr t x i => exact lift (ixa_sound hp hev h)
  case index t x i => exact lift (index_sound hev h)
  case extract x i =>
    refine lift ?_
    simp only [pv] at h
    split at h
    · rename_i ds e
      have hx:=hev x
      rw [e] at hx
      simp only [RepV] at hx
      obtain ⟨vs,hv,hx⟩:=hx
      obtain ⟨v,h1,h2⟩:=hx.get i h
      rw [hv]
      exact ⟨v,by simp [Instr.extract,h1],h2⟩
    · cases h
  case call c =>
    obtain ⟨callee,⟨args⟩,⟨tys⟩⟩:=c
    dsimp only
    have mmx : ∀ (bi : Builtin) (f : Int → Int → Int) (g : Value → Value → Sem Value) (x y : Operand),callee = .builtin bi → args = [x,y] →
        (∀ k k' x y,g (.int k x) (.int k' y) = pure (.int k (f x y))) → mm f (ev E s x) (ev E s y) = some d →
        (∀ tys ty cs,builtin bi tys ty cs #[a.eval x,a.eval y] = (do pure (.value (← g (a.eval x) (a.eval y))) : Sem Next)) →
        ∃ v,(do let d ← resolve a.eval ⟨callee,⟨args⟩,⟨tys⟩⟩ ty;invoke d.target d.args : Sem Next).run E.P w = .ok (.value v) w ∧ RepV s.h φ S w d v:=by
      rintro bi f g x y rfl rfl hg hm hb
      obtain ⟨v,h1,h2⟩:=mm_sound (P:=E.P) f g hg (hev x) (hev y) hm
      refine ⟨v, ?_,h2⟩
      simp [resolve,invoke,hb,h1]
    unfold pv at h
    split at h <;> first | (rename_i e;cases e) | cases h
    · obtain ⟨v,h1,h2⟩:=len_sound (E:=E) (ty:=ty) (hev _) h
      refine ⟨v, ?_,h2⟩
      simp [resolve,invoke,builtin,h1]
    · rename_i x
      cases hsx : ev E s x <;> rw [hsx] at h <;> simp only [sdD,reduceCtorEq] at h
      rename_i b ver off n
      split at h
      · rename_i hc
        simp only [Option.some.injEq] at h
        subst h
        have hx:=hev x
        rw [hsx] at hx
        simp only [RepV] at hx
        obtain ⟨fz,ver',ag,sz,m,f,ty',hl,hv,hx⟩:=hx
        have hcu:=hc.1
        simp only [cur,hl,beq_iff_eq] at hcu
        subst hcu
        obtain ⟨hm,a',cap,hv2,hn,ha0,ha1⟩:=hx rfl
        have hph : φ b ≠ none:=fun e => by have:=(ha0 e).2;omega
        obtain ⟨⟨c,tot⟩,hph⟩:=Option.ne_none_iff_exists'.1 hph
        obtain ⟨q1,q2,q3⟩:=ha1 c tot hph
        have q4:=q3 (by omega)
        refine ⟨.pointer (some ⟨c,off * sz,none⟩), ?_, ?_⟩
        · simp [resolve,invoke,builtin,hv2,q4,Lib.run_unsafeSliceData_row (P:=E.P) (w:=w) _ _ _ n cap (by omega)]
        · simp only [RepV]
          exact ⟨fz,ver',ag,sz,m,f,ty',hl,Nat.le_refl _,fun _ => ⟨by omega,c,tot,hph,by simp⟩⟩
      · cases h
    · refine mmx .min min Builtin.min2 _ _ rfl rfl (fun k k' x y => ?_) h (fun tys ty cs => by simp [builtin,Builtin.min_])
      simp only [Builtin.min2]
      congr 2
      split <;> omega
    · refine mmx .max max Builtin.max2 _ _ rfl rfl (fun k k' x y => ?_) h (fun tys ty cs => by simp [builtin,Builtin.max_])
      simp only [Builtin.max2]
      congr 2
      split <;> omega
end
def up (h : Hp) (b : Nat) (x : Blk) : Hp:=match h with
  | [] => []
  | (b',y) :: r => if b = b' then (b',x) :: r else (b',y) :: up r b x
def chk (h : Hp) (ag : Bool) (sz : Nat) (d : D) : Bool:=match cellsOf ag d with
  | some cs => cs.length == sz && cs.all (one h)
  | none => false
mutual
def cl : D → Bool
  | .sl .. | .ad .. | .el .. | .vs .. => false
  | .agg cs | .fn _ cs | .tup cs => cls cs
  | _ => true
def cls : List D → Bool
  | [] => true
  | d :: ds => cl d && cls ds
end
def wr (ag' : Bool) (sz : Nat) (d : D) (off : Nat) (ag : Bool) (n : Nat) (v : D) : Option D:=
  if ag && ag' && off == 0 && n == sz then some v else
    (cellsOf ag' d).bind fun cs => (cellsOf ag v).bind fun vs => if off + n ≤ cs.length then
      (if ag' then some (.agg (cs.take off ++ vs ++ cs.drop (off + n))) else vs.head?) else none
def srcOf (h : Hp) : D → Option (Nat × (Nat → D) × Option (Bool × Nat))
  | .nils => some (0,fun _ => .unk,none)
  | .ro ag sz n f => some (n,f,some (ag,sz))
  | .sl b ver off n => match lookB h b with
    | some (.row _ ver' ag sz _ f ty) => if ver = ver' then some (n,fun i => f (off + i),some (ag,sz)) else none
    | _ => none
  | .str s => some (s.length,fun i => .int .u8 ((s.getD i 0).toNat : Int),some (false,1))
  | _ => none
def tyOf (b : Bool) (t : Nat) : Nat:=if b then t else 0
def rtyOf (k : TK) (e : Nat) : Nat:=match k with
  | .string => e
  | _ => 0
theorem rtyOf_s (e : Nat) : rtyOf .string e = e:=Eq.trans rfl rfl
theorem rtyOf_l (e' e : Nat) : rtyOf (.slc e') e = 0:=Eq.trans rfl rfl
def kTy (t e : Nat) : Nat:=if t = e then t else 0
theorem kTy_0 (e : Nat) : kTy 0 e = 0:=by unfold kTy;split <;> rfl
theorem kTy_s (e : Nat) : kTy e e = e:=by unfold kTy;rw [if_pos rfl]
theorem tyOf_f (t : Nat) : tyOf false t = 0:=Eq.trans rfl rfl
theorem tyOf_t (t : Nat) : tyOf true t = t:=Eq.trans rfl rfl
def ef (E : Ctx) (s : St) (op : Op) (K : D → St → Prop) : Prop:=match op with
  | .box t x => (E.tt t).k ≠ .bad ∧ chk s.h (E.tt t).ag (E.tt t).sz (ev E s x) = true ∧ K (.ad s.nx 0) ⟨s.e,(s.nx, .var (E.tt t).ag (E.tt t).sz (ev E s x) (tyOf (E.tt t).trk t)) :: s.h,s.nx + 1⟩
  | .alloc t => (E.tt t).hz = true ∧ chk s.h (E.tt t).ag (E.tt t).sz (E.tt t).zero = true ∧ K (.ad s.nx 0) ⟨s.e,(s.nx, .var (E.tt t).ag (E.tt t).sz (E.tt t).zero (tyOf (E.tt t).trk t)) :: s.h,s.nx + 1⟩
  | .store t a x => (E.tt t).k ≠ .bad ∧ chk s.h (E.tt t).ag (E.tt t).sz (ev E s x) = true ∧ match ev E s a with
    | .ad b off => match lookB s.h b with
      | some (.var ag sz d ty) => ∃ d',wr ag sz d off (E.tt t).ag (E.tt t).sz (ev E s x) = some d' ∧ K (.tup []) ⟨s.e,up s.h b (.var ag sz d' ty),s.nx⟩
      | _ => False
    | .el b ver i fo => match lookB s.h b with
      | some (.row false ver' ag sz n f ty) => ver = ver' ∧ cl (ev E s x) = true ∧ ∃ d',wr ag sz (f i) fo (E.tt t).ag (E.tt t).sz (ev E s x) = some d' ∧
          K (.tup []) ⟨s.e,up s.h b (.row false ver ag sz n (fun j => if j = i then d' else f j) ty),s.nx⟩
      | _ => False
    | _ => False
  | .makeSlice t l c => match (E.tt t).k,ev E s l,ev E s c with
    | .slc e, .int _ n, .int _ n' => (E.tt e).hz = true ∧ (E.tt e).k ≠ .bad ∧ chk [] (E.tt e).ag (E.tt e).sz (E.tt e).zero = true ∧ (E.tt e).sz ≠ 0 ∧ n = n' ∧ 0 ≤ n ∧ n ≤ 9223372036854775807 ∧ n * (E.tt e).bytes ≤ 281474976710656 ∧
        K (.sl s.nx 0 0 n.toNat) ⟨s.e,(s.nx, .row false 0 (E.tt e).ag (E.tt e).sz n.toNat fun _ => (E.tt e).zero) :: s.h,s.nx + 1⟩
    | _,_,_ => False
  | .buildSlice t n ⟨ps⟩ => match (E.tt t).k with
    | .slc e => (E.tt e).k ≠ .bad ∧ (E.tt e).hz = true ∧ chk [] (E.tt e).ag (E.tt e).sz (E.tt e).zero = true ∧ (E.tt e).sz ≠ 0 ∧ n * (E.tt e).sz ≤ 16777216 ∧ ps.map (·.1) = List.range n ∧ (ps.all fun p => chk s.h (E.tt e).ag (E.tt e).sz (ev E s p.2) && cl (ev E s p.2)) = true ∧
        K (.sl s.nx 0 0 n) ⟨s.e,(s.nx, .row false 0 (E.tt e).ag (E.tt e).sz n fun i => (ps.map fun p => ev E s p.2).getD i .unk) :: s.h,s.nx + 1⟩
    | _ => False
  | .call { callee:=.builtin .append,args:=⟨[x,y]⟩,argTypes:=⟨[t,u]⟩ } => match (E.tt t).k,(E.tt u).k,srcOf s.h (ev E s y) with
    | .slc e,uk,some (m,g,k) => (uk = .slc e ∨ uk = .string) ∧ (E.tt e).k ≠ .bad ∧ (E.tt e).hz = true ∧ chk [] (E.tt e).ag (E.tt e).sz (E.tt e).zero = true ∧ (E.tt e).sz ≠ 0 ∧ (k = none ∨ k = some ((E.tt e).ag,(E.tt e).sz)) ∧ match ev E s x with
      | .nils => m ≤ 9223372036854775807 ∧ m * (E.tt e).bytes ≤ 140737488355328 ∧ K (.sl s.nx 0 0 m) ⟨s.e,(s.nx, .row false 0 (E.tt e).ag (E.tt e).sz m g (rtyOf uk e)) :: s.h,s.nx + 1⟩
      | .sl b ver 0 n => match lookB s.h b with
        | some (.row false ver' ag sz _ f ty) => ver = ver' ∧ ag = (E.tt e).ag ∧ sz = (E.tt e).sz ∧ n + m ≤ 9223372036854775807 ∧ (n + m) * (E.tt e).bytes ≤ 140737488355328 ∧
            K (.sl b (ver + 1) 0 (n + m)) ⟨s.e,up s.h b (.row false (ver + 1) ag sz (n + m) (fun j => if j < n then f j else g (j - n)) (kTy ty e)),s.nx⟩
        | _ => False
      | _ => False
    | _,_,_ => False
  | .call { callee:=.builtin .unsafeString,args:=⟨[x,y]⟩,argTypes:=⟨[t,_]⟩ } => match (E.tt t).k,ev E s x,ev E s y with
    | .ptr e, .el b ver 0 0, .int .i64 k => match lookB s.h b with
      | some (.row false ver' false 1 m f ty) => ver = ver' ∧ ty = e ∧ e ≠ 0 ∧ E.P.cellsOf e = 1 ∧ 0 < k ∧ k ≤ (m : Int) ∧ k ≤ 9223372036854775807 ∧ ∃ l : List UInt8,(l.length : Int) = k ∧ (∀ i,i < l.length → f i = .int .u8 ((l.getD i 0).toNat : Int)) ∧
          K (.str l) ⟨s.e,up s.h b (.row false (ver + 1) false 1 0 f ty),s.nx⟩
      | _ => False
    | _,_,_ => False
  | .convert src t x => match (E.tt src).k,(E.tt t).k,ev E s x with
    | .string, .slc e, .str l => (E.tt e).k = .int .u8 ∧ l.length ≤ 140737488355328 ∧ K (.sl s.nx 0 0 l.length) ⟨s.e,(s.nx, .row false 0 false 1 l.length fun i => .int .u8 ((l.getD i 0).toNat : Int)) :: s.h,s.nx + 1⟩
    | _,_,_ => False
  | .binOp .eql t x y _ => match (E.tt t).k,ev E s x,ev E s y with
    | .slc _, .nils, .nils => K (.bool true) s
    | .slc _, .ro _ _ n _, .nils => ∀ b : Bool,(b = true → n = 0) → K (.bool b) s
    | _,_,_ => False
  | _ => False
end Go.Proofs.YtakaojkfipnfcaaGreatDoor.Lv
