/- The abstract machine: append; bytes of a string. The abstract machine: bytes of a string, a slice against nil, values that are built; all effects together. -/
import Derived.Test.YtakaojkfipnfcaaGreatDoorG02
import Derived.Lib.ConvBytes
import Derived.Lib.UnsafeStr
set_option linter.unusedVariables false
set_option linter.unusedSimpArgs false
set_option maxRecDepth 100000
set_option maxHeartbeats 4000000
namespace Go.Proofs.YtakaojkfipnfcaaGreatDoor.Lv
open Go Go.RowKit
section
variable {P : Program} {w : World}
theorem append_room {t u ty e : Nat} {i : TypeInfo} (ht : P.underlying t = some (.slice e)) (hu : (∃ e',P.underlying u = some (.slice e')) ∨ P.underlying u = some .string) (hi : P.info? e = some i) {a : Option Addr} {n cap m : Nat} {y : Value}
    (hy : Builtin.lenOf y = pure m) {news : List Value} (hfc : (Builtin.firstCells i.size m y).run P w = .ok ⟨news⟩ w) (hroom : n + m ≤ cap) {w' : World} (hst : ∀ ad,a = some ad → (storeCells (ad.add (n * i.size)) news).run P w = .ok () w') (hnone : a = none → w' = w) :
    (Builtin.append_ #[t,u] ty #[.slice a n cap,y]).run P w = .ok (.slice a (n + m) cap) w':=by
  rcases hu with ⟨e',hu⟩ | hu
  all_goals
    cases a with
    | none =>
      obtain rfl:=hnone rfl
      simp [Builtin.append_,run_und ht,run_und hu,run_size hi,hy,hfc,hroom]
    | some ad =>
      have:=hst ad rfl
      simp [Builtin.append_,run_und ht,run_und hu,run_size hi,hy,hfc,hroom,this]
theorem append_grow {t u ty e : Nat} {i : TypeInfo} {z : Value} (ht : P.underlying t = some (.slice e)) (hu : (∃ e',P.underlying u = some (.slice e')) ∨ P.underlying u = some .string) (hi : P.info? e = some i) (hz : i.zero = some z) {a : Option Addr} {n cap m : Nat} {y : Value}
    (hy : Builtin.lenOf y = pure m) {news olds : List Value} (hfc : (Builtin.firstCells i.size m y).run P w.drew = .ok ⟨news⟩ w.drew) (hfo : (Builtin.firstCells i.size n (.slice a n cap)).run P w.drew = .ok ⟨olds⟩ w.drew)
    (hg : cap < n + m) (h63 : n + m ≤ 9223372036854775807) (hb : (n + m) * i.bytes ≤ 140737488355328) :
    (Builtin.append_ #[t,u] ty #[.slice a n cap,y]).run P w = .ok (.slice (some ⟨w.heap.size,0,none⟩) (n + m) (grownCap w (n + m) cap e)) (w.drew.alloc (.cells ⟨olds ++ news ++ (Builtin.zeroCells z.cells (grownCap w (n + m) cap e - (n + m))).toList⟩ e)):=by
  have hn : ¬ (n + m ≤ cap):=by omega
  have h63' : ¬ (9223372036854775807 < ((n : Int) + (m : Int))):=by omega
  have hfit:=growslice_fits hg hb
  have h48' : ¬ (281474976710656 < Builtin.nextslicecap (n + m) cap * i.bytes):=by omega
  rcases hu with ⟨e',hu⟩ | hu
  all_goals simp [Builtin.append_,run_und ht,run_und hu,run_size hi,run_info hi,zeroValue,hz,hy,hn,h63',h48',Question.forced,hfc,hfo,newRow,grownCap]
  all_goals
    congr 2
    apply Array.ext'
    simp
end
section
variable {E : Ctx} {B : Base} {s : St} {φ : Ph} {S : Nat → Prop} {a : Act} {w : World}
def Els (S : Nat → Prop) (w : World) (ag : Bool) (sz n : Nat) (f : Nat → D) (vs : List Value) : Prop:=∀ i,i < n → ∃ x,Cells ag x ((vs.drop (i * sz)).take sz) ∧ Rep0 S w (f i) x
theorem ro_cells {b o n sz : Nat} {ag : Bool} {f : Nat → D} (hz : sz ≠ 0) (h : ∀ i,i < n → ∃ x vs,vs.length = sz ∧ At w b (o + i * sz) vs ∧ Cells ag x vs ∧ Rep0 S w (f i) x) :
    ∃ vs,vs.length = n * sz ∧ At w b o vs ∧ Els S w ag sz n f vs:=by
  have hq : ∀ q,q < n * sz → ∃ x,w.cell? ⟨b,o + q,none⟩ = some x ∧ x.oneCell' = true:=fun q hq => by
    have hi : q / sz < n:=Nat.div_lt_of_lt_mul (by rwa [Nat.mul_comm])
    obtain ⟨x,vs,h1,h2,h3,h4⟩:=h (q / sz) hi
    have hr : q % sz < vs.length:=by rw [h1];exact Nat.mod_lt _ (by omega)
    have:=h2 (q % sz) vs[q % sz] (by simp [hr])
    have e : o + q / sz * sz + q % sz = o + q:=by have:=Nat.div_add_mod q sz;rw [Nat.mul_comm] at this;omega
    rw [e] at this
    exact ⟨_,this⟩
  refine ⟨(List.range (n * sz)).map fun q => (w.cell? ⟨b,o + q,none⟩).getD undef,by simp,fun j x hj => ?_,fun i hi => ?_⟩
  · have hlt : j < n * sz:=by
      have:=(List.getElem?_eq_some_iff.1 hj).1
      simpa using this
    obtain ⟨y,hy,h1⟩:=hq j hlt
    simp only [List.getElem?_map,List.getElem?_range hlt,Option.map_some,Option.some.injEq,hy,Option.getD_some] at hj
    subst hj
    exact ⟨hy,h1⟩
  · obtain ⟨x,vs,h1,h2,h3,h4⟩:=h i hi
    refine ⟨x, ?_,h4⟩
    have hle : i * sz + sz ≤ n * sz:=by
      calc i * sz + sz = (i + 1) * sz:=by rw [Nat.add_mul];omega
        _ ≤ n * sz:=Nat.mul_le_mul_right _ hi
    have : vs = (((List.range (n * sz)).map fun q => (w.cell? ⟨b,o + q,none⟩).getD undef).drop (i * sz)).take sz:=by
      apply List.ext_getElem?
      intro k
      rw [List.getElem?_take]
      by_cases hk : k < sz
      · rw [if_pos hk,List.getElem?_drop]
        have hkv : k < vs.length:=by omega
        have hc:=(h2 k vs[k] (by simp [hkv])).1
        have hlt : i * sz + k < n * sz:=by omega
        simp only [List.getElem?_map,List.getElem?_range hlt,Option.map_some]
        rw [← Nat.add_assoc,hc]
        simp [hkv]
      · rw [if_neg hk,List.getElem?_eq_none (by omega)]
    exact this ▸ h3
theorem seg_seg {α : Type} (vs : List α) (off j m sz : Nat) (hj : j < m) : ((((vs.drop (off * sz)).take (m * sz)).drop (j * sz)).take sz) = (vs.drop ((off + j) * sz)).take sz:=by
  have hle : j * sz + sz ≤ m * sz:=by
    calc j * sz + sz = (j + 1) * sz:=by rw [Nat.add_mul];omega
      _ ≤ m * sz:=Nat.mul_le_mul_right _ hj
  apply List.ext_getElem?
  intro k
  simp only [List.getElem?_take,List.getElem?_drop]
  by_cases hk : k < sz
  · rw [if_pos hk,if_pos hk,if_pos (by omega),Nat.add_mul]
    congr 1
    omega
  · rw [if_neg hk,if_neg hk]
theorem first_at {P : Program} {b o n sz l c : Nat} {vs : List Value} (h : At w b o vs) (hl : vs.length = n * sz) : (Builtin.firstCells sz n (.slice (some ⟨b,o,none⟩) l c)).run P w = .ok ⟨vs⟩ w:=
  run_firstCells_some w sz n _ l c vs hl fun j v hj => by rw [add_at];exact (h j v hj).1
theorem src_cells (hp : HpAt s.h φ S w) {d : D} {y : Value} (hy : RepV s.h φ S w d y) {m : Nat} {g : Nat → D} {k : Option (Bool × Nat)} (h : srcOf s.h d = some (m,g,k)) {ag : Bool} {sz : Nat} (hz : sz ≠ 0) (hk : k = none ∨ k = some (ag,sz)) (P : Program) :
    Builtin.lenOf y = pure m ∧ ∃ news,news.length = m * sz ∧ (∀ v ∈ news,v.oneCell' = true) ∧ Els S w ag sz m g news ∧ (Builtin.firstCells sz m y).run P w = .ok ⟨news⟩ w ∧ (Builtin.firstCells sz m y).run P w.drew = .ok ⟨news⟩ w.drew:=by
  have one_of : ∀ {b o : Nat} {vs : List Value},At w b o vs → ∀ v ∈ vs,v.oneCell' = true:=fun h v hv => by
    obtain ⟨j,hj⟩:=List.getElem?_of_mem hv
    exact (h j v hj).2
  unfold srcOf at h
  split at h
  · simp only [Option.some.injEq,Prod.mk.injEq] at h
    obtain ⟨rfl,rfl,rfl⟩:=h
    simp only [RepV,Rep0] at hy
    subst hy
    exact ⟨rfl,[],by simp,by simp,fun i hi => (by omega),by simp [Builtin.firstCells],by simp [Builtin.firstCells]⟩
  · rename_i ag' sz' n f
    simp only [Option.some.injEq,Prod.mk.injEq] at h
    obtain ⟨rfl,rfl,rfl⟩:=h
    simp only [reduceCtorEq,Option.some.injEq,Prod.mk.injEq,false_or] at hk
    obtain ⟨rfl,rfl⟩:=hk
    simp only [RepV,Rep0] at hy
    obtain ⟨ad,cap,rfl,hn,hcap,hy⟩:=hy
    refine ⟨rfl, ?_⟩
    rcases Nat.eq_zero_or_pos n with rfl | hpos
    · refine ⟨[],by simp,by simp,fun i hi => (by omega), ?_, ?_⟩ <;> cases ad <;> simp [Builtin.firstCells,loadCells,loadCellsFrom]
    · obtain ⟨b,o,rfl,hb,hel⟩:=hy hpos
      obtain ⟨vs,h1,h2,h3⟩:=ro_cells hz hel
      exact ⟨vs,h1,one_of h2,h3,first_at h2 h1,first_at (w:=w.drew) h2 h1⟩
  · rename_i b ver off n
    simp only [RepV] at hy
    obtain ⟨fz,ver',ag',sz',m',f,ty,hl,hv,hy⟩:=hy
    rw [hl] at h
    simp only at h
    split at h
    · rename_i hver
      subst hver
      simp only [Option.some.injEq,Prod.mk.injEq] at h
      obtain ⟨rfl,rfl,rfl⟩:=h
      simp only [reduceCtorEq,Option.some.injEq,Prod.mk.injEq,false_or] at hk
      obtain ⟨rfl,rfl⟩:=hk
      obtain ⟨hm,ad,cap,rfl,hn,ha0,ha1⟩:=hy rfl
      refine ⟨rfl, ?_⟩
      rcases Nat.eq_zero_or_pos n with rfl | hpos
      · refine ⟨[],by simp,by simp,fun i hi => (by omega), ?_, ?_⟩ <;> cases ad <;> simp [Builtin.firstCells,loadCells,loadCellsFrom]
      · have hph : φ b ≠ none:=fun e => by have:=(ha0 e).2;omega
        obtain ⟨⟨c,tot⟩,hph⟩:=Option.ne_none_iff_exists'.1 hph
        obtain ⟨q1,q2,q3⟩:=ha1 c tot hph
        obtain ⟨_,_,htot,hn2,vs,e2,lo,hi',hheap,hlen,⟨_,h1c⟩,hels,_⟩:=(hp.blk b _ hl).2 c tot hph
        rw [q3 (by omega)]
        have hat:=(At.of_heap hheap h1c).part (off * sz') (n * sz')
        rw [Nat.zero_add] at hat
        have hle : off * sz' + n * sz' ≤ vs.length:=by
          rw [hlen,← Nat.add_mul]
          exact Nat.mul_le_mul_right _ (by omega)
        have hl' : ((vs.drop (off * sz')).take (n * sz')).length = n * sz':=by simp;omega
        refine ⟨_,hl',one_of hat,fun i hi => ?_,first_at hat hl',first_at (w:=w.drew) hat hl'⟩
        obtain ⟨x,g3,g4⟩:=hels (off + i) (by omega)
        exact ⟨x,by rw [seg_seg _ _ _ _ _ hi];exact g3,g4⟩
    · cases h
  · rename_i l
    simp only [Option.some.injEq,Prod.mk.injEq] at h
    obtain ⟨rfl,rfl,rfl⟩:=h
    simp only [reduceCtorEq,Option.some.injEq,Prod.mk.injEq,false_or] at hk
    obtain ⟨rfl,rfl⟩:=hk
    simp only [RepV,Rep0] at hy
    subst hy
    have hfc : ∀ w : World,(Builtin.firstCells 1 l.length (.string ⟨l.toArray⟩)).run P w = .ok ⟨l.map fun b => Value.int .u8 (b.toNat : Int)⟩ w:=fun w => by
      simp only [Builtin.firstCells,Sem.run_pure]
      congr 1
      apply Array.ext'
      simp [ByteArray.data_extract]
    refine ⟨by simp [Builtin.lenOf,ByteArray.size],_,by simp, ?_,fun i hi => ?_,hfc w,hfc w.drew⟩
    · intro v hv
      simp only [List.mem_map] at hv
      obtain ⟨b,_,rfl⟩:=hv
      rfl
    · refine ⟨.int .u8 (l[i].toNat : Int), ?_, ?_⟩
      · simp only [Cells,Bool.false_eq_true,if_false,Nat.mul_one]
        rw [List.drop_eq_getElem_cons (by simpa using hi)]
        simp
      · simp [Rep0,List.getD,hi]
  · cases h
theorem zero_seg (z : List Value) (k : Nat) (hz : z ≠ []) (h1 : ∀ y ∈ z,y.oneCell' = true) : (Builtin.zeroCells ⟨z⟩ k).toList.length = k * z.length ∧ ∀ y ∈ (Builtin.zeroCells ⟨z⟩ k).toList,y.oneCell' = true:=by
  refine ⟨by simp [Builtin.zeroCells], ?_⟩
  have : Builtin.zeroCells ⟨z⟩ k = madeCells ⟨z⟩ (k * z.length):=by simp [Builtin.zeroCells,madeCells]
  rw [this]
  exact made_one z _ h1 hz
theorem els_append {ag : Bool} {sz n m : Nat} {f g : Nat → D} {vs us rest : List Value} (hv : vs.length = n * sz) (hu : us.length = m * sz) (h1 : Els S w ag sz n f vs) (h2 : Els S w ag sz m g us) :
    Els S w ag sz (n + m) (fun j => if j < n then f j else g (j - n)) (vs ++ us ++ rest):=by
  intro i hi
  have seg : ∀ (xs ys : List Value) (j : Nat),j * sz + sz ≤ xs.length → ((xs ++ ys).drop (j * sz)).take sz = (xs.drop (j * sz)).take sz:=fun xs ys j hj => by
    rw [List.drop_append_of_le_length (by omega),List.take_append_of_le_length (by simp;omega)]
  by_cases hin : i < n
  · obtain ⟨x,g1,g2⟩:=h1 i hin
    have hle : i * sz + sz ≤ n * sz:=by
      calc i * sz + sz = (i + 1) * sz:=by rw [Nat.add_mul];omega
        _ ≤ n * sz:=Nat.mul_le_mul_right _ hin
    refine ⟨x, ?_,by simpa [hin] using g2⟩
    rw [List.append_assoc,seg _ _ _ (by omega)]
    exact g1
  · obtain ⟨x,g1,g2⟩:=h2 (i - n) (by omega)
    have hle : (i - n) * sz + sz ≤ m * sz:=by
      calc (i - n) * sz + sz = (i - n + 1) * sz:=by rw [Nat.add_mul];omega
        _ ≤ m * sz:=Nat.mul_le_mul_right _ (by omega)
    have e : i * sz = n * sz + (i - n) * sz:=by rw [← Nat.add_mul];congr 1;omega
    refine ⟨x, ?_,by simpa [hin] using g2⟩
    rw [seg _ _ _ (by simp;omega),e,← hv,← List.drop_drop,List.drop_left]
    exact g1
theorem append_sound (hr : Rel B s φ S a w) (hev : ∀ x,RepV s.h φ S w (ev E s x) (a.eval x)) {o : Oper} {x y : Operand} {t u : Nat} (ho : o.op = .call { callee:=.builtin .append,args:=⟨[x,y]⟩,argTypes:=⟨[t,u]⟩ }) {K : D → St → Prop} (h : ef E s o.op K) : Goes E B s S a w o K:=by
  rw [ho] at h
  simp only [ef] at h
  have hx:=hev x
  split at h
  · rename_i e m g k hk hsrc
    obtain ⟨hu,hkb,hz,hzch,hs0,hkk,h⟩:=h
    have hu' : (∃ e',E.P.underlying u = some (.slice e')) ∨ E.P.underlying u = some .string:=by
      rcases hu with hu | hu
      · exact .inl ⟨e,und_slc hu⟩
      · exact .inr (und_str hu)
    obtain ⟨i,d,z,hi,hud,hzz,hzd,hag,hsz,hb⟩:=hz_zero hkb hz
    have hrep : RepV ([] : Hp) φ S w (E.tt e).zero z:=by rw [hzd];exact Rep0.toV _ _ (ofVal_rep z)
    obtain ⟨zs,hzcu,_,hzl,hz1⟩:=chk_cells hrep hzch
    have hzne : zs ≠ []:=fun e => by rw [e] at hzl;exact hs0 hzl.symm
    obtain ⟨hlen,news,hnl,hn1,hnels,hfc,hfcd⟩:=src_cells hr.hp (hev y) hsrc hs0 hkk E.P
    have run_of : ∀ {v : Value} {w' : World},(Builtin.append_ #[t,u] o.type #[a.eval x,a.eval y]).run E.P w = .ok v w' → (execOp a.eval o).run E.P w = .ok (.value v) w':=fun h => by
      simp [execOp,ho,resolve,invoke,builtin,h]
    rw [hsz] at hfc hfcd
    split at h
    · rename_i ex
      obtain ⟨hm63,hmb,hK⟩:=h
      rw [ex] at hx
      simp only [RepV,Rep0] at hx
      by_cases hm0 : m = 0
      · subst hm0
        obtain rfl : news = []:=List.eq_nil_of_length_eq_zero (by simpa using hnl)
        have hT:=turn_new hr (.row false 0 (E.tt e).ag (E.tt e).sz 0 g (rtyOf (E.tt u).k e)) none (fun c t e => by cases e) (w1:=w) rfl rfl rfl (Nat.le_refl _) (fun k hk => rfl) (fun h => absurd rfl h)
        refine ⟨_,_,_, .value (.slice none 0 0),_,w, ?_, .inl rfl,hK,rfl,hT.rel hr fun q hq => ?_, ?_⟩
        · apply run_of
          rw [hx]
          exact append_room (und_slc hk) hu' hi hlen hfc (by omega) (fun ad e => by cases e) (fun _ => rfl)
        · simp only [lookB,if_true,Option.some.injEq] at hq
          subst hq
          exact ⟨fun _ => rfl,fun c t e => by simp [phUp] at e⟩
        · simp only [RepV]
          refine ⟨false,0,(E.tt e).ag,(E.tt e).sz,0,g,rtyOf (E.tt u).k e,by simp [lookB],Nat.le_refl _,fun _ => ⟨by omega,none,0,rfl,by omega,fun _ => ⟨rfl,rfl⟩,fun c t e => by simp [phUp] at e⟩⟩
      · have hge:=grownCap_ge w (0 + m) 0 e
        have hle:=grownCap_le_maxLen w (0 + m) 0 e (by simp only [maxLen];omega)
        have hrun:=append_grow (w:=w) (ty:=o.type) (und_slc hk) hu' hi hzz (a:=none) (n:=0) (cap:=0) hlen hfcd (olds:=[]) (by simp [Builtin.firstCells]) (by omega) (by omega) (by rw [← hb];simpa using hmb)
        rw [hzcu] at hrun
        obtain ⟨z1,z2⟩:=zero_seg zs (grownCap w (0 + m) 0 e - (0 + m)) hzne hz1
        obtain ⟨φ',r1,r2⟩:=row_new hr (rty:=rtyOf (E.tt u).k e) (w1:=w.drew.alloc (.cells ⟨[] ++ news ++ (Builtin.zeroCells ⟨zs⟩ (grownCap w (0 + m) 0 e - (0 + m))).toList⟩ e)) (vs:=[] ++ news ++ (Builtin.zeroCells ⟨zs⟩ (grownCap w (0 + m) 0 e - (0 + m))).toList) (ty:=e) (lo:=0) (hi:=0) (tot:=grownCap w (0 + m) 0 e) (n:=m)
          (sz:=(E.tt e).sz) (ag:=(E.tt e).ag) (f:=g) rfl rfl rfl rfl (by
            rw [List.length_append,z1,hzl,List.nil_append,hnl,← Nat.add_mul]
            congr 1
            omega) (by simp only [maxLen] at hle;omega) (by omega) (by simp) (fun y hy => by
              simp only [List.nil_append,List.mem_append] at hy
              rcases hy with hy | hy
              · exact hn1 y hy
              · exact z2 y hy) (fun i hi => by
                have:=els_append (rest:=(Builtin.zeroCells ⟨zs⟩ (grownCap w (0 + m) 0 e - (0 + m))).toList) (vs:=[]) (n:=0) (f:=g) (by simp) hnl (fun i hi => by omega) hnels i (by omega)
                simpa using this)
        refine ⟨_,_,φ', .value _,_,_, ?_, .inl rfl,hK,rfl,r1,r2⟩
        apply run_of
        rw [hx]
        simpa using hrun
    · rename_i b ver n ex
      split at h
      · rename_i ver' ag sz m0 f tyr hl
        obtain ⟨rfl,rfl,rfl,hm63,hmb,hK⟩:=h
        rw [ex] at hx
        simp only [RepV] at hx
        obtain ⟨fz',ver2,ag',sz',m2,f2,ty2,hl2,hv2,hx⟩:=hx
        rw [hl] at hl2
        simp only [Option.some.injEq,Blk.row.injEq] at hl2
        obtain ⟨rfl,rfl,rfl,rfl,rfl,rfl,rfl⟩:=hl2
        obtain ⟨hm,ad,cap,hxv,hncap,ha0,ha1⟩:=hx rfl
        obtain ⟨hb0,hb1⟩:=hr.hp.blk b _ hl
        have hlu : lookB (up s.h b (.row false (ver + 1) (E.tt e).ag (E.tt e).sz (n + m) (fun j => if j < n then f j else g (j - n)) (kTy tyr e))) b = some (.row false (ver + 1) (E.tt e).ag (E.tt e).sz (n + m) (fun j => if j < n then f j else g (j - n)) (kTy tyr e)):=by
          rw [lookB_up];simp [hl]
        have hextr : ∀ p : Option (Nat × Nat),(∀ ag sz d ty,Blk.row false ver (E.tt e).ag (E.tt e).sz m0 f tyr = .var ag sz d ty → (∃ d',Blk.row false (ver + 1) (E.tt e).ag (E.tt e).sz (n + m) (fun j => if j < n then f j else g (j - n)) (kTy tyr e) = .var ag sz d' ty) ∧ p = φ b) ∧
            (∀ fz v ag sz q f' ty',Blk.row false ver (E.tt e).ag (E.tt e).sz m0 f tyr = .row fz v ag sz q f' ty' → ∃ fz' ver' m' f'' ty'',Blk.row false (ver + 1) (E.tt e).ag (E.tt e).sz (n + m) (fun j => if j < n then f j else g (j - n)) (kTy tyr e) = .row fz' ver' ag sz m' f'' ty'' ∧ v ≤ ver' ∧ (v = ver' → q ≤ m' ∧ p = φ b)):=fun p =>
          ⟨fun _ _ _ _ he => (by cases he),fun _ _ _ _ _ _ _ he => (by cases he;exact ⟨_,_,_,_,_,rfl,Nat.le_succ _,fun h => absurd h (by omega)⟩)⟩
        have fin : ∀ {w1 : World} {p : Option (Nat × Nat)} {v' : Value},(Builtin.append_ #[t,u] o.type #[a.eval x,a.eval y]).run E.P w = .ok v' w1 →
            Turn B s φ S w b (up s.h b (.row false (ver + 1) (E.tt e).ag (E.tt e).sz (n + m) (fun j => if j < n then f j else g (j - n)) (kTy tyr e))) (phUp φ b p) s.nx w1 →
            (p = none → n + m = 0 ∧ v' = .slice none 0 0) →
            (∀ c tot,p = some (c,tot) → ¬ S c ∧ tot ≤ 9223372036854775807 ∧ n + m ≤ tot ∧ (∃ ad,v' = .slice (some ad) (n + m) tot ∧ (0 < tot → ad = ⟨c,0,none⟩)) ∧
              ∃ vs ty lo hi,w1.heap[c]? = some (.cells ⟨vs⟩ ty (lo,hi)) ∧ vs.length = tot * (E.tt e).sz ∧ ((∀ o,o < tot * (E.tt e).sz → ¬ (lo ≤ o ∧ o < hi)) ∧ ∀ y ∈ vs,y.oneCell' = true) ∧ Els S w (E.tt e).ag (E.tt e).sz (n + m) (fun j => if j < n then f j else g (j - n)) vs ∧ (kTy tyr e = 0 ∨ ty = kTy tyr e)) → Goes E B s S a w o K:=by
          intro w1 p v' hrun hT hp0 hp1
          have hkept:=hT.kept hr.slt
          refine ⟨_,_,_, .value v',_,w1,run_of hrun, .inl rfl,hK,rfl,hT.rel hr fun q hq => ?_, ?_⟩
          · rw [hlu] at hq
            simp only [Option.some.injEq] at hq
            subst hq
            refine ⟨fun e => ?_,fun c tot e => ?_⟩
            · simp only [phUp,if_true] at e
              exact (hp0 e).1
            · simp only [phUp,if_true] at e
              obtain ⟨h1,h2,h3,_,vs,ty,lo,hi,h4,h5,h6,h7,h8⟩:=hp1 c tot e
              refine ⟨fun _ => h1,fun h => (by cases h),h2,h3,vs,ty,lo,hi,h4,h5,h6,fun i hi => ?_,h8⟩
              obtain ⟨x,g1,g2⟩:=h7 i hi
              exact ⟨x,g1,Rep0.mono hkept (fun _ h => h) _ _ g2⟩
          · simp only [RepV]
            refine ⟨_,_,_,_,_,_,_,hlu,Nat.le_refl _,fun _ => ⟨by omega, ?_⟩⟩
            cases p with
            | none =>
              obtain ⟨h1,h2⟩:=hp0 rfl
              exact ⟨none,0,by rw [h2,h1],by omega,fun _ => ⟨rfl,rfl⟩,fun c t e => by simp [phUp] at e⟩
            | some p =>
              obtain ⟨c,tot⟩:=p
              obtain ⟨_,_,h3,⟨ad',h4,h5⟩,_⟩:=hp1 c tot rfl
              refine ⟨some ad',tot,h4,h3,fun e => by simp [phUp] at e,fun c' t' e => ?_⟩
              simp only [phUp,if_true,Option.some.injEq,Prod.mk.injEq] at e
              obtain ⟨rfl,rfl⟩:=e
              refine ⟨by omega,rfl,fun h => by rw [h5 h];simp⟩
        have hcap63 : cap ≤ 9223372036854775807:=by
          cases hph : φ b with
          | none => have:=(ha0 hph).2;omega
          | some p => obtain ⟨c,tot⟩:=p;have:=(ha1 c tot hph).1;have:=(hb1 c tot hph).2.2.1;omega
        
        have holds : ∃ olds,olds.length = n * (E.tt e).sz ∧ (∀ y ∈ olds,y.oneCell' = true) ∧ Els S w (E.tt e).ag (E.tt e).sz n f olds ∧ (Builtin.firstCells i.size n (.slice ad n cap)).run E.P w.drew = .ok ⟨olds⟩ w.drew ∧
            ∀ c tot,φ b = some (c,tot) → ∃ vs ty lo hi,w.heap[c]? = some (.cells ⟨vs⟩ ty (lo,hi)) ∧ vs.length = tot * (E.tt e).sz ∧ ((∀ o,o < tot * (E.tt e).sz → ¬ (lo ≤ o ∧ o < hi)) ∧ ∀ y ∈ vs,y.oneCell' = true) ∧ olds = vs.take (n * (E.tt e).sz) ∧ (tyr = 0 ∨ ty = tyr):=by
          cases hph : φ b with
          | none =>
            obtain ⟨h1,h2⟩:=ha0 hph
            obtain rfl : n = 0:=by omega
            exact ⟨[],by simp,by simp,fun i hi => by omega,by rw [h1];simp [Builtin.firstCells],fun c t e => by cases e⟩
          | some p =>
            obtain ⟨c,tot⟩:=p
            obtain ⟨h1,h2,h3,h4,vs,ty,lo,hi',h5,h6,h7,h8,h9⟩:=hb1 c tot hph
            obtain ⟨q1,q2,q3⟩:=ha1 c tot hph
            have hle : n * (E.tt e).sz ≤ vs.length:=by rw [h6];exact Nat.mul_le_mul_right _ (by omega)
            refine ⟨vs.take (n * (E.tt e).sz),by simp;omega,fun y hy => h7.2 y (List.mem_of_mem_take hy),fun j hj => ?_, ?_,fun c' t' e => by cases e;exact ⟨vs,ty,lo,hi',h5,h6,h7,rfl,h9⟩⟩
            · obtain ⟨x,g3,g4⟩:=h8 j (by omega)
              have:=seg_seg vs 0 j n (E.tt e).sz hj
              simp only [Nat.zero_mul,List.drop_zero,Nat.zero_add] at this
              exact ⟨x,by rw [this];exact g3,g4⟩
            · rcases Nat.eq_zero_or_pos n with rfl | hpos
              · cases ad <;> simp [Builtin.firstCells,loadCells,loadCellsFrom]
              · rw [q3 (by omega),← hsz]
                have hat:=(At.of_heap (w:=w.drew) h5 h7.2).part 0 (n * (E.tt e).sz)
                exact first_at (by simpa using hat) (by simp;omega)
        obtain ⟨olds,ho1,ho2,ho3,ho4,ho5⟩:=holds
        by_cases hroom : n + m ≤ cap
        · 
          cases hph : φ b with
          | none =>
            obtain ⟨h1,h2⟩:=ha0 hph
            obtain rfl : n = 0:=by omega
            obtain rfl : m = 0:=by omega
            obtain rfl : news = []:=List.eq_nil_of_length_eq_zero (by simpa using hnl)
            refine fin (w1:=w) (p:=none) (v':=.slice none 0 0) ?_ (turn_up hr hl none (fun c t e => by rw [hph] at e;cases e) (hextr none) (fun c t e => by cases e) rfl rfl rfl (Nat.le_refl _) (fun k _ _ => rfl)) (fun _ => ⟨rfl,rfl⟩) (fun c t e => by cases e)
            rw [hxv,h1,h2]
            exact append_room (und_slc hk) hu' hi hlen hfc (by omega) (fun ad e => by cases e) (fun _ => rfl)
          | some p =>
            obtain ⟨c,tot⟩:=p
            obtain ⟨hns',_,h3,h4,_⟩:=hb1 c tot hph
            have hns:=hns' rfl
            obtain ⟨q1,q2,q3⟩:=ha1 c tot hph
            obtain ⟨vs,ty,lo,hi',h5,h6,h7,h8,h9⟩:=ho5 c tot hph
            obtain ⟨ad',hadv⟩:=Option.isSome_iff_exists.1 q2
            have hfit : n * (E.tt e).sz + news.length ≤ vs.length:=by
              rw [hnl,h6,← Nat.add_mul];exact Nat.mul_le_mul_right _ (by omega)
            have hst:=store_run E.P (c:=c) (o:=n * (E.tt e).sz) news 0 vs w h5 (by omega) (by rw [h6];exact h7.1) hn1
            simp only [Nat.add_zero] at hst
            refine fin (w1:=w.setRow c (vs.take (n * (E.tt e).sz) ++ news ++ vs.drop (n * (E.tt e).sz + news.length)).toArray) (p:=some (c,tot)) (v':=.slice ad (n + m) cap) ?_
              (turn_up hr hl (some (c,tot)) (fun c' t' e' => by rw [hph] at e';cases e';exact hns) (hextr _) (fun c' t' e' => by cases e';exact .inr ⟨_,hph⟩) rfl rfl rfl (by simp) (fun k _ hne => setRow_other w c k _ (hne c tot hph))) (fun e => by cases e) (fun c' t' e' => ?_)
            · rw [hxv]
              refine append_room (und_slc hk) hu' hi hlen hfc hroom (fun ad'' e' => ?_) (fun e' => by rw [hadv] at e';cases e')
              rcases Nat.eq_zero_or_pos cap with hc0 | hcp
              · obtain rfl : n = 0:=by omega
                obtain rfl : m = 0:=by omega
                obtain rfl : news = []:=List.eq_nil_of_length_eq_zero (by simpa using hnl)
                simp only [storeCells,Sem.run_pure,Nat.zero_mul,List.take_zero,List.nil_append,List.length_nil,Nat.add_zero,List.drop_zero]
                rw [setRow_self w c vs.toArray ty (lo,hi') h5]
              · rw [q3 hcp] at e'
                cases e'
                rw [add_at,← hsz]
                simpa using hst
            · cases e'
              refine ⟨hns,h3,by omega,⟨ad',by rw [hadv,show tot = cap by omega],fun hp => ?_⟩,_,ty,lo,hi',setRow_heap w c ⟨vs⟩ _ ty (lo,hi') h5, ?_,⟨h7.1, ?_⟩, ?_,kty_old h9⟩
              · have:=q3 (by omega)
                rw [hadv] at this
                simpa using this
              · simp;omega
              · intro y hy
                simp only [List.mem_append] at hy
                rcases hy with (hy | hy) | hy
                · exact h7.2 y (List.mem_of_mem_take hy)
                · exact hn1 y hy
                · exact h7.2 y (List.mem_of_mem_drop hy)
              · rw [← h8]
                exact els_append ho1 hnl ho3 hnels
        · 
          have hge:=grownCap_ge w (n + m) cap e
          have hle:=grownCap_le_maxLen w (n + m) cap e (by simp only [maxLen];omega)
          have hrun:=append_grow (w:=w) (ty:=o.type) (und_slc hk) hu' hi hzz hlen hfcd ho4 (by omega) (by omega) (by rw [← hb];exact hmb)
          rw [hzcu] at hrun
          obtain ⟨z1,z2⟩:=zero_seg zs (grownCap w (n + m) cap e - (n + m)) hzne hz1
          refine fin (w1:=w.drew.alloc (.cells ⟨olds ++ news ++ (Builtin.zeroCells ⟨zs⟩ (grownCap w (n + m) cap e - (n + m))).toList⟩ e)) (p:=some (w.heap.size,grownCap w (n + m) cap e)) (by rw [hxv];exact hrun)
            (turn_up hr hl _ (fun c' t' e' => (hb1 c' t' e').1 rfl) (hextr _) (fun c' t' e' => by cases e';exact .inl ⟨rfl,by simp⟩) rfl rfl rfl (by simp) (fun k hk _ => Below.heap_alloc w.drew _ k hk)) (fun e => by cases e) (fun c' t' e' => ?_)
          cases e'
          refine ⟨fun h => Nat.lt_irrefl _ (hr.slt _ h),by simp only [maxLen] at hle;omega,hge,⟨_,rfl,fun _ => rfl⟩,_,e,0,0,Go.heap_alloc_new w.drew _, ?_,⟨by simp, ?_⟩,els_append ho1 hnl ho3 hnels,kty_ok⟩
          · rw [List.length_append,List.length_append,z1,hzl,ho1,hnl,← Nat.add_mul,← Nat.add_mul]
            congr 1
            omega
          · intro y hy
            simp only [List.mem_append] at hy
            rcases hy with (hy | hy) | hy
            · exact ho2 y hy
            · exact hn1 y hy
            · exact z2 y hy
      · exact h.elim
    · exact h.elim
  · exact h.elim
end
section
variable {E : Ctx} {B : Base} {s : St} {φ : Ph} {S : Nat → Prop} {a : Act} {w : World}
theorem conv_bytes_sound (hr : Rel B s φ S a w) (hev : ∀ x,RepV s.h φ S w (ev E s x) (a.eval x)) {o : Oper} {src t : Nat} {x : Operand} (ho : o.op = .convert src t x) {K : D → St → Prop} (h : ef E s o.op K) : Goes E B s S a w o K:=by
  rw [ho] at h
  simp only [ef] at h
  have hx:=hev x
  split at h
  · rename_i e l hs ht ex
    obtain ⟨he,hl,hK⟩:=h
    rw [ex] at hx
    simp only [RepV,Rep0] at hx
    have hsl : (⟨l.toArray⟩ : ByteArray).size = l.length:=by simp [ByteArray.size]
    have hge:=grownCap_ge w l.length 0 e
    have hle:=grownCap_le_maxLen w l.length 0 e (by simp only [maxLen];omega)
    have hrun:=Lib.run_convert_string_bytes (P:=E.P) w src t e ⟨l.toArray⟩ (und_str hs) (und_slc ht) (und_int he)
    have hcells : Lib.bytesCells w e ⟨l.toArray⟩ = ⟨(l.map fun b => Value.int .u8 (b.toNat : Int)) ++ List.replicate (grownCap w l.length 0 e - l.length) (.int .u8 0)⟩:=by
      apply Array.ext'
      simp [Lib.bytesCells,hsl]
    have hnew:=Lib.bytesWorld_at_new w e ⟨l.toArray⟩
    rw [hcells] at hnew
    obtain ⟨φ',r1,r2⟩:=row_new' hr (rty:=0) (w1:=Lib.bytesWorld w e ⟨l.toArray⟩) (tot:=grownCap w l.length 0 e) (n:=l.length) (sz:=1) (ag:=false) (f:=fun i => .int .u8 ((l.getD i 0).toNat : Int))
      (fun k hk => Lib.bytesWorld_at_old w e _ k hk) hnew (by rw [Lib.bytesWorld_size];omega) (by first | rfl | (simp [Lib.bytesWorld,World.freeze];done) | (simp [Lib.bytesWorld,World.freeze];rfl)) (by first | rfl | (simp [Lib.bytesWorld,World.freeze];done) | (simp [Lib.bytesWorld,World.freeze];rfl)) (by first | rfl | (simp [Lib.bytesWorld,World.freeze];done) | (simp [Lib.bytesWorld,World.freeze];rfl))
      (by simp;omega) (by simp only [maxLen] at hle;omega) hge (by simp;omega) (by
      intro y hy
      simp only [List.mem_append,List.mem_map,List.mem_replicate] at hy
      rcases hy with ⟨b,_,rfl⟩ | ⟨_,rfl⟩ <;> rfl) (fun i hi => by
      refine ⟨.int .u8 (l[i].toNat : Int), ?_,by simp [Rep0,List.getD,hi]⟩
      simp only [Cells,Bool.false_eq_true,if_false,Nat.mul_one]
      rw [List.drop_append_of_le_length (by simp;omega),List.take_append_of_le_length (by simp;omega),List.drop_eq_getElem_cons (by simpa using hi)]
      simp)
    refine ⟨_,_,φ', .value _,_,_, ?_, .inl rfl,hK,rfl,r1,r2⟩
    rw [hsl] at hrun
    simp [execOp,ho,hx,hrun]
  · exact h.elim
theorem ustr_sound (hr : Rel B s φ S a w) (hev : ∀ x,RepV s.h φ S w (ev E s x) (a.eval x)) {o : Oper} {x y : Operand} {t u : Nat} (ho : o.op = .call { callee:=.builtin .unsafeString,args:=⟨[x,y]⟩,argTypes:=⟨[t,u]⟩ }) {K : D → St → Prop} (h : ef E s o.op K) : Goes E B s S a w o K:=by
  rw [ho] at h
  simp only [ef] at h
  have hx:=hev x
  have hy:=hev y
  split at h
  · rename_i e b ver k hk ex ey
    rw [ex] at hx
    rw [ey] at hy
    split at h
    · rename_i ver' m f ty hl
      obtain ⟨rfl,rfl,he0,hc1,hk0,hkm,hk63,l,hlk,hfl,hK⟩:=h
      simp only [RepV] at hx
      simp only [RepV,Rep0] at hy
      obtain ⟨fz',ver2,ag',sz',m2,f2,ty2,hl2,hv2,hx⟩:=hx
      rw [hl] at hl2
      simp only [Option.some.injEq,Blk.row.injEq] at hl2
      obtain ⟨rfl,rfl,rfl,rfl,rfl,rfl,rfl⟩:=hl2
      obtain ⟨hm,c,tot,hph,hxv⟩:=hx rfl
      obtain ⟨hb0,hb1⟩:=hr.hp.blk b _ hl
      obtain ⟨hns,_,h63,hmt,vs,e',lo,hi,hheap,hvl,hfr,hels,hty⟩:=hb1 c tot hph
      obtain rfl : e' = ty:=hty.resolve_left he0
      simp only [Nat.mul_one] at hvl hels
      have hsh : w.shape? c = some (e',vs.length):=by simp [World.shape?,hheap]
      have hcell : ∀ j x,l[j]? = some x → w.cell? ((⟨c,0,none⟩ : Addr).add j) = some (.int .u8 x.toNat):=fun j z hj => by
        have hjl : j < l.length:=by
          rcases Nat.lt_or_ge j l.length with h | h
          · exact h
          · rw [List.getElem?_eq_none h] at hj;cases hj
        obtain ⟨q,hq1,hq2⟩:=hels j (by omega)
        rw [hfl j hjl] at hq2
        simp only [Rep0] at hq2
        simp only [Cells,Bool.false_eq_true,if_false] at hq1
        have hjv : j < vs.length:=by omega
        rw [List.drop_eq_getElem_cons hjv] at hq1
        simp only [List.take_succ_cons,List.take_zero,List.cons.injEq,and_true] at hq1
        have hz : l.getD j 0 = z:=by simp [List.getD,hj]
        rw [hz] at hq2
        have hadd : ((⟨c,0,none⟩ : Addr).add j) = ⟨c,j,none⟩:=by simp [Addr.add];intro e;exact e.symm
        rw [hadd]
        simp [World.cell?,hheap,List.getElem?_eq_getElem hjv,hq1,hq2]
      have hrun:=Lib.run_unsafeString_row (P:=E.P) (w:=w) t u o.type e' (und_ptr hk) hc1 c vs.length hsh l (fun e => by subst e;simp at hlk;omega) (by omega) (by omega) hcell
      have hlu : lookB (up s.h b (.row false (ver + 1) false 1 0 f e')) b = some (.row false (ver + 1) false 1 0 f e'):=by rw [lookB_up];simp [hl]
      have hT:=turn_up hr hl (x:=.row false (ver + 1) false 1 0 f e') none (w1:=w.freeze ⟨c,0,none⟩ l.length) (fun c' t' e => by rw [hph] at e;cases e;exact hns rfl)
        ⟨fun _ _ _ _ he => (by cases he),fun _ _ _ _ _ _ _ he => (by cases he;exact ⟨_,_,_,_,_,rfl,Nat.le_succ _,fun h => absurd h (by omega)⟩)⟩
        (fun c' t' e => by cases e) (by unfold World.freeze;split <;> rfl) (by unfold World.freeze;split <;> rfl) (by unfold World.freeze;split <;> rfl) (by unfold World.freeze;split <;> simp)
        (fun q hq hne => by
          unfold World.freeze
          split
          · rfl
          · simp only [Array.getElem?_modify]
            rw [if_neg (fun e => hne c tot hph e.symm)])
      refine ⟨_,_,_, .value (.string ⟨l.toArray⟩),_,_, ?_, .inl rfl,hK,rfl,hT.rel hr fun q hq => ?_,by simp [RepV,Rep0]⟩
      · rw [hlk] at hrun
        simp only [Nat.zero_mul,Nat.add_zero] at hxv
        simp [execOp,ho,resolve,invoke,builtin,hxv,hy,hrun]
      · rw [hlu] at hq
        simp only [Option.some.injEq] at hq
        subst hq
        exact ⟨fun _ => rfl,fun c t e => by simp [phUp] at e⟩
    · exact h.elim
  · exact h.elim
theorem eqIn_sl {P : Program} (d : Nat) {t e : Nat} (a : Option Addr) (n c : Nat) (hu : P.underlying t = some (.slice e)) : (Op.equalIn (d + 1) t (.slice a n c) (.slice none 0 0)).run P w = .ok a.isNone w:=by
  unfold Op.equalIn
  cases a <;> simp [run_und hu]
theorem eql_sound (hr : Rel B s φ S a w) (hev : ∀ x,RepV s.h φ S w (ev E s x) (a.eval x)) {o : Oper} {t yt : Nat} {x y : Operand} (ho : o.op = .binOp .eql t x y yt) {K : D → St → Prop} (h : ef E s o.op K) : Goes E B s S a w o K:=by
  rw [ho] at h
  simp only [ef] at h
  have hx:=hev x
  have hy:=hev y
  have run_of : ∀ {ad : Option Addr} {n c : Nat},a.eval x = .slice ad n c → a.eval y = .slice none 0 0 → (∃ e,(E.tt t).k = .slc e) → (execOp a.eval o).run E.P w = .ok (.value (.bool ad.isNone)) w:=by
    rintro ad n c h1 h2 ⟨e,hk⟩
    simp [execOp,ho,h1,h2,eqGuard,binOp,run_eq (eqIn_sl 9999 ad n c (und_slc hk))]
  split at h
  · rename_i e hk e1 e2
    rw [e1] at hx
    rw [e2] at hy
    simp only [RepV,Rep0] at hx hy
    exact ⟨_,_,φ, .value _,_,_,run_of hx hy ⟨e,hk⟩, .inl rfl,h,rfl,hr,by simp [RepV,Rep0]⟩
  · rename_i e ag sz n f hk e1 e2
    rw [e1] at hx
    rw [e2] at hy
    simp only [RepV,Rep0] at hx hy
    obtain ⟨ad,cap,hv,_,_,hpos⟩:=hx
    refine ⟨_,_,φ, .value _,_,_,run_of hv hy ⟨e,hk⟩, .inl rfl,h ad.isNone fun hn => ?_,rfl,hr,by simp [RepV,Rep0]⟩
    rcases Nat.eq_zero_or_pos n with h0 | h0
    · exact h0
    · obtain ⟨b,o,rfl,_⟩:=hpos h0
      cases hn
  · exact h.elim
theorem ef_sound (hr : Rel B s φ S a w) (hev : ∀ x,RepV s.h φ S w (ev E s x) (a.eval x)) {o : Oper} {K : D → St → Prop} (h : ef E s o.op K) : Goes E B s S a w o K:=by
  cases hop : o.op
  case box t x => exact box_sound hr hev hop h
  case alloc t => exact alloc_sound hr hop h
  case store t ad x => exact store_sound hr hev hop h
  case makeSlice t l c => exact make_sound hr hev hop h
  case buildSlice t n ps => obtain ⟨ps⟩:=ps;exact bslice_sound hr hev hop h
  case convert src t x => exact conv_bytes_sound hr hev hop h
  case binOp op t x y yt =>
    cases op
    case eql => exact eql_sound hr hev hop h
    all_goals (rw [hop] at h;exact (show False from h).elim)
  case call c =>
    have h':=h
    rw [hop] at h'
    unfold ef at h'
    split at h' <;> first | (rename_i e;cases e) | exact h'.elim
    · exact append_sound hr hev hop h
    · exact ustr_sound hr hev hop h
  all_goals (rw [hop] at h;exact (show False from h).elim)
theorem over_rep {H : Hp} : ∀ (ps : List (Nat × D)) (vs : List (Nat × Value)) (places : List (Nat × Nat)) (q : List (Nat × List D)) (z : List D) (cs : List Value),
    ps.map (·.1) = vs.map (·.1) → RepVs H φ S w (ps.map (·.2)) (vs.map (·.2)) → fits E H ps places = some q → RepVs H φ S w z cs → (q.all fun x => decide (x.1 + x.2.length ≤ z.length)) = true →
    ∃ cs',Instr.fill (fun i => (places.map fun p => (p.1,(E.tt p.2).sz))[i]?) ⟨cs⟩ vs = some ⟨cs'⟩ ∧ RepVs H φ S w (over z q) cs'
  | [],vs,places,q,z,cs,h1,h2,h3,h4,h5 => by
    cases vs with
    | nil => simp only [fits,Option.some.injEq] at h3;subst h3;exact ⟨cs,rfl,h4⟩
    | cons v vs => simp at h1
  | (i,d) :: ps,vs,places,q,z,cs,h1,h2,h3,h4,h5 => by
    cases vs with
    | nil => simp at h1
    | cons v vs =>
      obtain ⟨i',v⟩:=v
      simp only [List.map_cons,List.cons.injEq,RepVs] at h1 h2
      obtain ⟨rfl,h1⟩:=h1
      obtain ⟨v',vs',⟨rfl,rfl⟩,hd,h2⟩:=h2
      simp only [fits] at h3
      split at h3
      · cases h3
      · rename_i off t hpl
        split at h3
        · cases h3
        · rename_i us hus
          split at h3
          · rename_i hsz
            obtain ⟨hsz,hone⟩:=hsz
            cases hf : fits E H ps places with
            | none => rw [hf] at h3;cases h3
            | some q' =>
              rw [hf] at h3
              simp only [Option.map_some,Option.some.injEq] at h3
              subst h3
              simp only [List.all_cons,Bool.and_eq_true,decide_eq_true_eq] at h5
              obtain ⟨ws,hw1,hw2⟩ : ∃ ws,v.cells = ⟨ws⟩ ∧ RepVs H φ S w us ws:=by
                unfold cellsOf at hus
                cases hag : (E.tt t).ag with
                | true =>
                  rw [hag] at hus
                  simp only [if_true] at hus
                  cases d <;> simp only [asAgg,Option.some.injEq,reduceCtorEq] at hus
                  subst hus
                  simp only [RepV] at hd
                  obtain ⟨ws,rfl,hd⟩:=hd
                  exact ⟨ws,rfl,hd⟩
                | false =>
                  rw [hag] at hus
                  simp only [Bool.false_eq_true,if_false,Option.some.injEq] at hus
                  subst hus
                  refine ⟨[v], ?_,v,[],rfl,hd,rfl⟩
                  have h1 : one H d = true:=by simpa [hag] using hone
                  have:=one_cell hd h1
                  cases v <;> first | rfl | simp [Value.oneCell'] at this
              have hlw : ws.length = (E.tt t).sz:=by rw [hw2.length];exact hsz
              have hle : off + ws.length ≤ cs.length:=by rw [hlw,← hsz,h4.length];exact h5.1
              have hz : (z.take off ++ us ++ z.drop (off + us.length)).length = z.length:=by simp;omega
              obtain ⟨cs',g1,g2⟩:=over_rep ps vs places q' (z.take off ++ us ++ z.drop (off + us.length)) (cs.take off ++ ws ++ cs.drop (off + ws.length)) h1 h2 hf
                (by rw [show ws.length = us.length by rw [hw2.length]];exact ((h4.take off).append hw2).append (h4.drop _)) (by rw [hz];exact h5.2)
              refine ⟨cs', ?_,g2⟩
              rw [fill_cons _ (off:=off) (sz:=(E.tt t).sz) (by simp [hpl]) hw1 hlw hle]
              exact g1
          · cases h3
theorem nbad_iff {k : TK} : nbad k = true ↔ k ≠ .bad:=by cases k <;> simp [nbad]
theorem fill_mono {p p' : Nat → Option (Nat × Nat)} (h : ∀ i x,p i = some x → p' i = some x) : ∀ (l : List (Nat × Value)) (cs r : Array Value),Instr.fill p cs l = some r → Instr.fill p' cs l = some r
  | [],cs,r,h1 => h1
  | (i,v) :: l,cs,r,h1 => by
    simp only [Instr.fill] at h1 ⊢
    cases hp : p i with
    | none => rw [hp] at h1;cases h1
    | some x =>
      rw [h i x hp]
      rw [hp] at h1
      obtain ⟨off,sz⟩:=x
      simp only at h1 ⊢
      split at h1
      · cases h1
      · rename_i hc
        rw [if_neg hc]
        exact fill_mono h l _ r h1
theorem places_run {E : Ctx} : ∀ (F : List Field),(F.all fun f => nbad (E.tt f.type).k) = true → F.mapM (fun f => (E.P.info? f.type).map fun i => (f.offset,i.size)) = some (F.map fun f => (f.offset,(E.tt f.type).sz))
  | [],_ => rfl
  | f :: F,h => by
    simp only [List.all_cons,Bool.and_eq_true] at h
    obtain ⟨i,d,h1,_,h3⟩:=ti_of (nbad_iff.1 h.1)
    simp only [List.mapM_cons,Option.bind_eq_bind,Option.pure_def,h1,Option.map_some,Option.bind_some,places_run F h.2,List.map_cons]
    rw [h3]
theorem pv_sound (hp : HpAt s.h φ S w) (hev : ∀ x,RepV s.h φ S w (ev E s x) (a.eval x)) {o : Oper} {d : D} (h : pv E s o.op = some d) :
    ∃ v,(execOp a.eval o).run E.P w = .ok (.value v) w ∧ RepV s.h φ S w d v:=by
  by_cases hb : ∃ t ps,o.op = .build t ps
  · obtain ⟨t,⟨ps⟩,ho⟩:=hb
    rw [ho] at h
    have maps : ∀ ps : List (Nat × Operand),(ps.map fun p => (p.1,ev E s p.2)).map (·.1) = (ps.map fun p => (p.1,a.eval p.2)).map (·.1) ∧ RepVs s.h φ S w ((ps.map fun p => (p.1,ev E s p.2)).map (·.2)) ((ps.map fun p => (p.1,a.eval p.2)).map (·.2)):=fun ps => by
      refine ⟨by simp [List.map_map,Function.comp_def], ?_⟩
      simp only [List.map_map,Function.comp_def]
      induction ps with
      | nil => rfl
      | cons p ps ih => exact ⟨_,_,rfl,hev p.2,ih⟩
    obtain ⟨m1,m2⟩:=maps ps
    have hzero : ∀ z,(E.tt t).zero = .agg z → (E.tt t).k ≠ .bad → ∃ zv cs i,E.P.info? t = some i ∧ i.zero = some zv ∧ zv.cells = ⟨cs⟩ ∧ RepVs s.h φ S w z cs:=fun z hz hk => by
      obtain ⟨i,d,h1,h2,h3⟩:=ti_of hk
      rw [h3] at hz
      simp only at hz
      cases hzz : i.zero with
      | none => rw [hzz] at hz;cases hz
      | some zv =>
        rw [hzz] at hz
        simp only [Option.map_some,Option.getD_some] at hz
        have:=Rep0.toV (H:=s.h) (φ:=φ) _ _ (ofVal_rep (S:=S) (w:=w) zv)
        rw [hz] at this
        simp only [RepV] at this
        obtain ⟨cs,rfl,this⟩:=this
        exact ⟨_,cs,i,h1,hzz,rfl,this⟩
    simp only [pv] at h
    split at h
    · rename_i fs z hk hz
      split at h
      · cases h
      rename_i hnb
      obtain ⟨q,hq,h⟩:=bind_of h
      split at h
      · rename_i hall
        simp only [Option.some.injEq] at h
        subst h
        obtain ⟨zv,cs,i,hi,hzz,hcs,hrep⟩:=hzero z hz (by rw [hk];simp)
        obtain ⟨F,hu,rfl⟩:=und_strct hk
        obtain ⟨cs',g1,g2⟩:=over_rep _ _ _ _ _ _ m1 m2 hq hrep hall
        refine ⟨.agg ⟨cs'⟩, ?_,by simp only [RepV];exact ⟨_,rfl,g2⟩⟩
        have hb : E.P.built t (ps.map fun p => (p.1,a.eval p.2)) = some ⟨cs'⟩:=by
          unfold Program.built
          simp only [hi,hu,hzz,places_run F.toList (by simpa [List.all_map,Function.comp_def] using hnb),hcs]
          rw [List.map_map] at g1
          simpa [Function.comp_def] using g1
        have:=run_build (P:=E.P) w t ⟨ps.map fun p => (p.1,a.eval p.2)⟩ ⟨cs'⟩ hb
        simp [execOp,ho,this]
      · cases h
    · rename_i n e z hk hz
      split at h
      · cases h
      rename_i hnb
      obtain ⟨q,hq,h⟩:=bind_of h
      split at h
      · rename_i hall
        simp only [Option.some.injEq] at h
        subst h
        obtain ⟨zv,cs,i,hi,hzz,hcs,hrep⟩:=hzero z hz (by rw [hk];simp)
        obtain ⟨cs',g1,g2⟩:=over_rep _ _ _ _ _ _ m1 m2 hq hrep hall
        refine ⟨.agg ⟨cs'⟩, ?_,by simp only [RepV];exact ⟨_,rfl,g2⟩⟩
        obtain ⟨ie,de,e1,e2,e3⟩:=ti_of (nbad_iff.1 (by simpa using hnb))
        have hb : E.P.built t (ps.map fun p => (p.1,a.eval p.2)) = some ⟨cs'⟩:=by
          unfold Program.built
          simp only [hi,und_arr hk,hzz,e1,hcs]
          refine fill_mono (fun i x hx => ?_) _ _ _ g1
          have hsz : (E.tt e).sz = ie.size:=by rw [e3]
          simp only [List.map_map,List.getElem?_map,Option.map_eq_some_iff,Function.comp_def] at hx
          obtain ⟨j,hj,rfl⟩:=hx
          obtain ⟨_,hj⟩:=List.getElem?_eq_some_iff.1 hj
          simp only [List.getElem_range] at hj
          subst hj
          rw [hsz]
        have:=run_build (P:=E.P) w t ⟨ps.map fun p => (p.1,a.eval p.2)⟩ ⟨cs'⟩ hb
        simp [execOp,ho,this]
      · cases h
    · cases h
  · exact pv_sound0 hp hev h fun t ps e => hb ⟨t,ps,e⟩
end
end Go.Proofs.YtakaojkfipnfcaaGreatDoor.Lv
