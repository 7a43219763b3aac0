/- The program's types. What arguments read as, as values of the abstract machine. The abstract machine: a nil slice as an empty row of the call's own; decisions found by reckoning. Rows of bytes; single bits. Numbers of limbs: the plain law. Division by limbs: the plain law of one step. Division by limbs: the plain law of the rounds. Division by limbs: the guess. -/
import Derived.Test.YtakaojkfipnfcaaGreatDoorG09
import Derived.Test.YtakaojkfipnfcaaGreatDoorRows
import Derived.ProofKit
import Derived.OpenShut
import Derived.ChangeOld
set_option linter.unusedVariables false
set_option linter.unusedSimpArgs false
set_option maxRecDepth 100000
set_option maxHeartbeats 4000000
namespace Go.Proofs.YtakaojkfipnfcaaGreatDoor.Lv
open Go Go.RowKit
theorem look_cons {α : Type} (d : α) (b : Nat) (x : α) (r : List (Nat × α)) (t : Nat) : look d ((b,x) :: r) t = if t = b then x else look d r t:=Eq.trans rfl rfl
def gvS (d : Nat → D) : Nat → D:=d
def deBr : List Int:=[0,1,28,2,29,14,24,3,30,22,20,15,25,17,4,8,31,27,13,23,21,19,16,7,26,12,18,6,11,5,10,9]
def deBrD : D:=.agg (deBr.map fun n => .int .u8 n)
def gvB (d : Nat → D) : Nat → D:=fun g => if g = 0 then .ra true 32 deBrD 0 else d g
def gv0 : Nat → D:=gvS (gvB fun g => .gl g)
noncomputable def E : Ctx:=⟨Tryz.prog,fun t => tiOf Tryz.prog t,gv0,fun _ => rfl,by kernel_rfl,fun _ => true⟩
theorem tt_2 : E.tt 2 = ⟨false,1,8, .int .i64,true, .int .i64 0,false,false⟩:=by kernel_rfl
theorem tt_3 : E.tt 3 = ⟨false,1,8, .int .i64,true, .int .i64 0,false,false⟩:=by kernel_rfl
theorem tt_4 : E.tt 4 = ⟨false,1,1, .bool,true, .bool false,false,false⟩:=by kernel_rfl
theorem tt_5 : E.tt 5 = ⟨false,1,1, .int .u8,true, .int .u8 0,false,false⟩:=by kernel_rfl
theorem tt_9 : E.tt 9 = ⟨false,1,16, .string,true, .str [],false,false⟩:=by kernel_rfl
theorem tt_22 : E.tt 22 = ⟨false,1,24, .slc 83,true, .nils,false,false⟩:=by kernel_rfl
theorem tt_23 : E.tt 23 = ⟨false,1,24, .slc 25,true, .nils,false,false⟩:=by kernel_rfl
theorem tt_25 : E.tt 25 = ⟨true,2,32, .strct [(0,9),(1,9)],true, .agg [.str [], .str []],true,false⟩:=by kernel_rfl
theorem tt_26 : E.tt 26 = ⟨false,1,24, .slc 9,true, .nils,false,false⟩:=by kernel_rfl
theorem tt_27 : E.tt 27 = ⟨false,1,24, .slc 23,true, .nils,false,false⟩:=by kernel_rfl
theorem tt_29 : E.tt 29 = ⟨true,7,136, .strct [(0,3),(1,22),(2,23),(3,25),(5,26),(6,27)],true, .agg [.int .i64 0, .nils, .nils, .str [], .str [], .nils, .nils],true,false⟩:=by kernel_rfl
theorem tt_34 : E.tt 34 = ⟨false,1,24, .slc 234,true, .nils,false,false⟩:=by kernel_rfl
theorem tt_35 : E.tt 35 = ⟨false,1,24, .slc 234,true, .nils,false,false⟩:=by kernel_rfl
theorem tt_37 : E.tt 37 = ⟨true,2,32, .strct [(0,4),(1,35)],true, .agg [.bool false, .nils],true,false⟩:=by kernel_rfl
theorem tt_39 : E.tt 39 = ⟨true,3,56, .strct [(0,37),(2,35)],true, .agg [.bool false, .nils, .nils],true,false⟩:=by kernel_rfl
theorem tt_52 : E.tt 52 = ⟨false,1,24, .slc 125,true, .nils,false,false⟩:=by kernel_rfl
theorem tt_54 : E.tt 54 = ⟨false,1,24, .slc 62,true, .nils,false,false⟩:=by kernel_rfl
theorem tt_56 : E.tt 56 = ⟨true,1,24, .strct [(0,34)],true, .agg [.nils],true,false⟩:=by kernel_rfl
theorem tt_58 : E.tt 58 = ⟨true,2,32, .strct [(0,56),(1,4)],true, .agg [.nils, .bool false],true,false⟩:=by kernel_rfl
theorem tt_60 : E.tt 60 = ⟨true,3,56, .strct [(0,58),(2,56)],true, .agg [.nils, .bool false, .nils],true,false⟩:=by kernel_rfl
theorem tt_62 : E.tt 62 = ⟨true,6,112, .strct [(0,60),(3,60)],true, .agg [.nils, .bool false, .nils, .nils, .bool false, .nils],true,false⟩:=by kernel_rfl
theorem tt_63 : E.tt 63 = ⟨false,1,24, .slc 60,true, .nils,false,false⟩:=by kernel_rfl
theorem tt_64 : E.tt 64 = ⟨false,1,24, .slc 54,true, .nils,false,false⟩:=by kernel_rfl
theorem tt_66 : E.tt 66 = ⟨true,11,216, .strct [(0,3),(1,52),(2,54),(3,62),(9,63),(10,64)],true, .agg [.int .i64 0, .nils, .nils, .nils, .bool false, .nils, .nils, .bool false, .nils, .nils, .nils],true,false⟩:=by kernel_rfl
theorem tt_75 : E.tt 75 = ⟨true,5,40, .strct [(0,3),(1,3),(2,3),(3,3),(4,3)],true, .agg [.int .i64 0, .int .i64 0, .int .i64 0, .int .i64 0, .int .i64 0],true,false⟩:=by kernel_rfl
theorem tt_78 : E.tt 78 = ⟨false,1,8, .int .i64,true, .int .i64 0,false,false⟩:=by kernel_rfl
theorem tt_83 : E.tt 83 = ⟨false,1,24, .slc 151,true, .nils,false,false⟩:=by kernel_rfl
theorem tt_95 : E.tt 95 = ⟨false,1,24, .slc 5,true, .nils,false,false⟩:=by kernel_rfl
theorem tt_102 : E.tt 102 = ⟨false,1,24, .slc 169,true, .nils,false,false⟩:=by kernel_rfl
theorem tt_114 : E.tt 114 = ⟨false,1,8, .ptr 116,true, .nilp,false,false⟩:=by kernel_rfl
theorem tt_116 : E.tt 116 = ⟨true,2,32, .strct [(0,114),(1,95)],true, .agg [.nilp, .nils],true,true⟩:=by kernel_rfl
theorem tt_123 : E.tt 123 = ⟨false,1,24, .slc 189,true, .nils,false,false⟩:=by kernel_rfl
theorem tt_125 : E.tt 125 = ⟨true,1,24, .strct [(0,123)],true, .agg [.nils],true,false⟩:=by kernel_rfl
theorem tt_144 : E.tt 144 = ⟨true,8,72, .strct [(0,9),(1,3),(2,75),(7,78)],true, .agg [.str [], .int .i64 0, .int .i64 0, .int .i64 0, .int .i64 0, .int .i64 0, .int .i64 0, .int .i64 0],true,false⟩:=by kernel_rfl
theorem tt_149 : E.tt 149 = ⟨true,3,3, .arr 3 5,true, .agg [.int .u8 0, .int .u8 0, .int .u8 0],true,false⟩:=by kernel_rfl
theorem tt_151 : E.tt 151 = ⟨true,4,24, .strct [(0,149),(3,9)],true, .agg [.int .u8 0, .int .u8 0, .int .u8 0, .str []],true,false⟩:=by kernel_rfl
theorem tt_156 : E.tt 156 = ⟨false,1,8, .int .u64,true, .int .u64 0,false,false⟩:=by kernel_rfl
theorem tt_169 : E.tt 169 = ⟨true,6,64, .strct [(0,149),(3,39)],true, .agg [.int .u8 0, .int .u8 0, .int .u8 0, .bool false, .nils, .nils],true,false⟩:=by kernel_rfl
theorem tt_181 : E.tt 181 = ⟨true,3,40, .strct [(0,58),(2,3)],true, .agg [.nils, .bool false, .int .i64 0],true,false⟩:=by kernel_rfl
theorem tt_189 : E.tt 189 = ⟨true,6,64, .strct [(0,149),(3,60)],true, .agg [.int .u8 0, .int .u8 0, .int .u8 0, .nils, .bool false, .nils],true,false⟩:=by kernel_rfl
theorem tt_198 : E.tt 198 = ⟨false,1,8, .int .u64,true, .int .u64 0,false,false⟩:=by kernel_rfl
theorem tt_229 : E.tt 229 = ⟨false,1,8, .uptr,true, .nilp,false,false⟩:=by kernel_rfl
theorem tt_234 : E.tt 234 = ⟨false,1,4, .int .u32,true, .int .u32 0,false,false⟩:=by kernel_rfl
theorem tt_265 : E.tt 265 = ⟨false,1,24, .slc 3,true, .nils,false,false⟩:=by kernel_rfl
theorem tt_279 : E.tt 279 = ⟨true,32,32, .arr 32 5,true, .agg [.int .u8 0, .int .u8 0, .int .u8 0, .int .u8 0, .int .u8 0, .int .u8 0, .int .u8 0, .int .u8 0, .int .u8 0, .int .u8 0, .int .u8 0, .int .u8 0, .int .u8 0, .int .u8 0, .int .u8 0, .int .u8 0, .int .u8 0, .int .u8 0, .int .u8 0, .int .u8 0, .int .u8 0, .int .u8 0, .int .u8 0, .int .u8 0, .int .u8 0, .int .u8 0, .int .u8 0, .int .u8 0, .int .u8 0, .int .u8 0, .int .u8 0, .int .u8 0],true,false⟩:=by kernel_rfl
attribute [go_sem] AW_skip AW_seq AW_region AW_drawn AW_drawnC AW_drawnN AW_cond AW_block AW_loop AW_exit AW_ret thn_normal thn_exit thn_ret blk_normal blk_exit blk_ret AR_nil AR_cons AT_eq AX_eq ork_some ork_none_ef KP_eq KT_eq put_some put_none gd_tt gd_ff gd_tf gd_ft gd_tup cnd_t cnd_f retQ_normal retQ_ret init_eq ev_tmp ev_const ev_global ev_func upd_eq AW_rf bmid_eq rnd_normal rnd_ret pv ef_box ef_alloc ef_store ef_make ef_bslice ef_append ef_eql KV_eq KR_eq resD one' imp imps impB kp_nil pos_nil nof_eq kp_eq HLe EnvLe look_cons BLe refs refss flat flats frz St.frz mx Option.isSome_some Option.isSome_none cl cls ofVal ofVals asAgg_agg cellsOf part rd ldd cur tyOf_f tyOf_t rtyOf_s rtyOf_l kTy_0 kTy_s tle_s ork_grd grd_true min_pos fdiv_lit shr_lit wrap_i64 wrap_u64 wrap_u32 wrap_u8 bin un lenD bds cutD conv mm one_int one_bool one_str one_nilp one_nils one_ro one_ad one_vs one_sl chk wr lookB up srcOf fits over nbad isU8 u8Of List.getD_cons_zero List.getD_cons_succ List.getD_nil List.map_cons List.map_nil List.all_cons List.all_nil List.cons_append List.nil_append List.append_nil List.length_cons List.length_nil List.take_succ_cons List.take_zero List.take_nil List.drop_succ_cons List.drop_zero List.drop_nil List.getElem?_cons_zero List.getElem?_cons_succ List.getElem?_nil List.head?_cons List.getElem?_toArray Option.bind_some Option.bind_none Option.map_some Option.map_none Bool.and_true Bool.true_and Bool.false_and Bool.and_false Bool.or_true Bool.true_or Bool.false_or Bool.or_false Bool.not_true Bool.not_false beq_self_eq_true and_true true_and and_false false_and ne_eq not_true_eq_false not_false_eq_true if_true if_false Bool.false_eq_true Nat.add_eq_zero_iff Nat.zero_add Nat.add_zero Nat.one_ne_zero Nat.zero_ne_one List.range_succ List.range_zero decide_true decide_false decide_eq_true_eq decide_eq_false_iff_not Nat.sub_zero Int.toNat_zero Nat.zero_le Int.toNat_natCast Int.cast_ofNat_Int noFz Onw Frs kn elt slen eqOr eqD eqL Nat.max_eq_left Nat.max_eq_right givOk List.contains_nil List.contains_cons aft mrg ex exD exDs exB impH pos fsOf refB List.flatMap_cons List.flatMap_nil List.length_singleton List.isEmpty_cons List.isEmpty_nil LeV_self Le_self LesV_self lim_tt ite_someD Nat.mul_one List.length_map List.length_append
attribute [go_sem] tt_2 tt_3 tt_4 tt_5 tt_9 tt_22 tt_23 tt_25 tt_26 tt_27 tt_29 tt_34 tt_35 tt_37 tt_39 tt_52 tt_54 tt_56 tt_58 tt_60 tt_62 tt_63 tt_64 tt_66 tt_75 tt_78 tt_83 tt_95 tt_102 tt_114 tt_116 tt_123 tt_125 tt_144 tt_149 tt_151 tt_156 tt_169 tt_181 tt_189 tt_198 tt_229 tt_234 tt_265 tt_279
inductive Sh where
  | int (k : IntKind) | bool | str | slc (e : Sh) | st (fs : Sh) | nil | cons (a b : Sh)
def Sh.T : Sh → Type
  | .int _ => Int
  | .bool => Bool
  | .str => List UInt8
  | .slc e => Option (List e.T)
  | .st fs => fs.T
  | .nil => Unit
  | .cons a b => a.T × b.T
def Sh.ag : Sh → Bool
  | .st _ => true
  | _ => false
def Sh.size : Sh → Nat
  | .st fs => fs.size
  | .nil => 0
  | .cons a b => a.size + b.size
  | _ => 1
def oneOf (ag : Bool) (ds : List D) : D:=if ag then .agg ds else ds.headD .unk
def Sh.ds : (s : Sh) → s.T → List D
  | .int k,n => [.int k n]
  | .bool,b => [.bool b]
  | .str,s => [.str s]
  | .slc e,x => match (x : Option (List e.T)) with
    | none => [.nils]
    | some l => [.ro e.ag e.size l.length fun i => match l[i]? with
      | some y => oneOf e.ag (e.ds y)
      | none => .unk]
  | .st fs,x => fs.ds x
  | .nil,_ => []
  | .cons a b,x => a.ds x.1 ++ b.ds x.2
def Sh.d (s : Sh) (x : s.T) : D:=oneOf s.ag (s.ds x)
def Sh.wf : (s : Sh) → s.T → Prop
  | .int k,n => (Lit.int k n).wf = true
  | .bool,_ => True
  | .str,s => s.length ≤ maxLen
  | .slc e,x => match (x : Option (List e.T)) with
    | none => True
    | some l => l.length ≤ maxLen ∧ ∀ y,y ∈ l → e.wf y
  | .st fs,x => fs.wf x
  | .nil,_ => True
  | .cons a b,x => a.wf x.1 ∧ b.wf x.2
def Sh.bulk : (s : Sh) → s.T → Nat
  | .int _,_ => 1
  | .bool,_ => 1
  | .str,s => s.length + 1
  | .slc e,x => match (x : Option (List e.T)) with
    | none => 1
    | some l => (l.map e.bulk).sum + 1
  | .st fs,x => fs.bulk x + 1
  | .nil,_ => 0
  | .cons a b,x => a.bulk x.1 + b.bulk x.2
mutual
def Sh.fit (tt : Nat → TI) : Sh → Nat → Bool
  | .int k,t => (tt t).k == .int k
  | .bool,t => (tt t).k == .bool
  | .str,t => (tt t).k == .string
  | .slc e,t => match (tt t).k with
    | .slc u => e.fit tt u && (tt u).ag == e.ag && (tt u).sz == e.size && e.size != 0
    | _ => false
  | .st fs,t => match (tt t).k with
    | .strct l => fs.fitF tt l 0 && (tt t).sz == fs.size && fs.size != 0
    | .arr n u => fs.fitF tt ((List.range n).map fun i => (i * (tt u).sz,u)) 0 && (tt t).sz == fs.size && fs.size != 0
    | _ => false
  | .nil,_ => false
  | .cons ..,_ => false
def Sh.fitF (tt : Nat → TI) : Sh → List (Nat × Nat) → Nat → Bool
  | .nil,[],_ => true
  | .cons a b,(o,u) :: r,off => o == off && a.fit tt u && (tt u).sz == a.size && a.size != 0 && b.fitF tt r (off + a.size)
  | _,_,_ => false
end
theorem Rep0s.app {S : Nat → Prop} {w : World} : ∀ {ds es : List D} {vs us : List Value},Rep0s S w ds vs → Rep0s S w es us → Rep0s S w (ds ++ es) (vs ++ us)
  | [],es,vs,us,h,h' => by simp only [Rep0s] at h;subst h;exact h'
  | d :: ds,es,vs,us,h,h' => by
    simp only [Rep0s] at h
    obtain ⟨v,vs',rfl,h1,h2⟩:=h
    exact ⟨v,vs' ++ us,rfl,h1,h2.app h'⟩
def plainD : D → Bool
  | .int .. | .bool _ | .str _ | .nils | .ro .. => true
  | _ => false
theorem Sh.ds_plain : ∀ (s : Sh) (x : s.T),∀ d ∈ s.ds x,plainD d = true
  | .int k,n,d,h => by simp only [Sh.ds,List.mem_singleton] at h;subst h;rfl
  | .bool,n,d,h => by simp only [Sh.ds,List.mem_singleton] at h;subst h;rfl
  | .str,n,d,h => by simp only [Sh.ds,List.mem_singleton] at h;subst h;rfl
  | .slc e,x,d,h => by
    simp only [Sh.ds] at h
    split at h <;> (simp only [List.mem_singleton] at h;subst h;rfl)
  | .st fs,x,d,h => Sh.ds_plain fs x d h
  | .nil,_,d,h => by cases h
  | .cons a b,x,d,h => by
    rcases List.mem_append.1 h with h | h
    · exact Sh.ds_plain a _ d h
    · exact Sh.ds_plain b _ d h
theorem plain_one {S : Nat → Prop} {w : World} {d : D} {v : Value} (h : plainD d = true) (hr : Rep0 S w d v) : v.oneCell' = true:=by
  cases d <;> simp only [plainD,Bool.false_eq_true] at h
  case int => simp only [Rep0] at hr;subst hr;rfl
  case bool => simp only [Rep0] at hr;subst hr;rfl
  case str => simp only [Rep0] at hr;subst hr;rfl
  case nils => simp only [Rep0] at hr;subst hr;rfl
  case ro => simp only [Rep0] at hr;obtain ⟨a,cap,rfl,_⟩:=hr;rfl
theorem plains_one {S : Nat → Prop} {w : World} : ∀ {ds : List D} {vs : List Value},(∀ d ∈ ds,plainD d = true) → Rep0s S w ds vs → ∀ v ∈ vs,v.oneCell' = true
  | [],vs,h,hr,v,hv => by simp only [Rep0s] at hr;subst hr;cases hv
  | d :: ds,vs,h,hr,v,hv => by
    simp only [Rep0s] at hr
    obtain ⟨y,vs',rfl,h1,h2⟩:=hr
    rcases List.mem_cons.1 hv with rfl | hv
    · exact plain_one (h d (by simp)) h1
    · exact plains_one (fun d hd => h d (List.mem_cons_of_mem _ hd)) h2 v hv
theorem Sh.ds_length : ∀ (s : Sh) (x : s.T),(s.ds x).length = s.size
  | .int k,n => rfl
  | .bool,n => rfl
  | .str,n => rfl
  | .slc e,x => by simp only [Sh.ds];split <;> rfl
  | .st fs,x => Sh.ds_length fs x
  | .nil,_ => rfl
  | .cons a b,x => by simp only [Sh.ds,List.length_append,Sh.ds_length a,Sh.ds_length b,Sh.size]
theorem one_rep {S : Nat → Prop} {w : World} {ag : Bool} {ds : List D} {vs : List Value} {v : Value} (hr : Rep0s S w ds vs) (hag : ag = false → ds.length = 1) (hc : Cells ag v vs) : Rep0 S w (oneOf ag ds) v:=by
  unfold oneOf
  cases ag with
  | true =>
    simp only [Cells,if_true] at hc ⊢
    subst hc
    simp only [Rep0]
    exact ⟨vs,rfl,hr⟩
  | false =>
    simp only [Cells,Bool.false_eq_true,if_false] at hc ⊢
    match ds,hag rfl with
    | [d],_ =>
      simp only [Rep0s] at hr
      obtain ⟨v',vs',e,h1,rfl⟩:=hr
      rw [hc] at e
      simp only [List.cons.injEq,and_true] at e
      subst e
      exact h1
theorem Sh.size_one {t : Nat} : ∀ (s : Sh),s.ag = false → s.fit E.tt t = true → s.size = 1
  | .int _,_,_ => rfl
  | .bool,_,_ => rfl
  | .str,_,_ => rfl
  | .slc _,_,_ => rfl
  | .st _,h,_ => by cases h
  | .nil,_,h => by simp [Sh.fit] at h
  | .cons _ _,_,h => by simp [Sh.fit] at h
theorem cellsOf_sz {t : Nat} (h : (E.tt t).sz ≠ 0) : E.P.cellsOf t = (E.tt t).sz:=by
  obtain ⟨i,d,h1,_,h3,_⟩:=sz_of h
  simp [Program.cellsOf,h1,h3]
theorem cells_at {W : World} {a : Addr} {n : Nat} {vs : List Value} (h : W.cells? 0 a n = some vs) (hn : n ≠ 0) : ∃ b o,a = ⟨b,o,none⟩ ∧ b < W.heap.size ∧ vs.length = n ∧ ∀ j v,vs[j]? = some v → W.cell? ⟨b,o + j,none⟩ = some v:=by
  unfold World.cells? at h
  rw [if_pos (Nat.zero_le _)] at h
  have hl : vs.length = n ∧ ∀ j v,vs[j]? = some v → W.cell? (a.add j) = some v:=by
    have key : ∀ (l : List Nat) (vs : List Value),l.mapM (fun i => W.cell? (a.add i)) = some vs → vs.length = l.length ∧ ∀ (j : Nat) v,vs[j]? = some v → ∃ i,l[j]? = some i ∧ W.cell? (a.add i) = some v:=by
      intro l
      induction l with
      | nil => intro vs h;simp at h;subst h;simp
      | cons i l ih =>
        intro vs h
        rw [List.mapM_cons] at h
        simp only [bind,Option.bind_eq_some_iff,pure,Option.some.injEq] at h
        obtain ⟨v,h1,vs',h2,rfl⟩:=h
        obtain ⟨g1,g2⟩:=ih vs' h2
        refine ⟨by simp [g1],fun j y hj => ?_⟩
        cases j with
        | zero => simp at hj;subst hj;exact ⟨i,rfl,h1⟩
        | succ j => simpa using g2 j y (by simpa using hj)
    obtain ⟨g1,g2⟩:=key _ _ h
    refine ⟨by simpa using g1,fun j v hj => ?_⟩
    obtain ⟨i,hi,hv⟩:=g2 j v hj
    have : i = j:=by
      have:=List.getElem?_eq_some_iff.1 hi
      obtain ⟨h1,h2⟩:=this
      simpa using h2.symm
    subst this
    exact hv
  obtain ⟨hl,hc⟩:=hl
  have h0 : 0 < vs.length:=by omega
  have hc0:=hc 0 vs[0] (by simp [h0])
  obtain ⟨b,o,sp⟩:=a
  have hsp : sp = none:=by simpa [Addr.add] using World.cell?_spot hc0
  subst hsp
  refine ⟨b,o,rfl, ?_,hl,fun j v hj => by have:=hc j v hj;rwa [add_at] at this⟩
  rw [add_at] at hc0
  unfold World.cell? at hc0
  cases hb : W.heap[b]? with
  | none => rw [hb] at hc0;cases hc0
  | some ob => exact (Array.getElem?_eq_some_iff.1 hb).1
theorem trod_slice {H : Type} {enc : TypeId × Value → H} {P : Program} {W : World} {t e : Nat} (hu : P.underlying t = some (.slice e)) {fuel : Nat} {cs : List Value} {x : DataW H × List MemPlace}
    (h : DataW.trod enc P W 0 (fun _ => true) true fuel t cs = some x) : (cs = [.slice none 0 0] ∧ x.1 = .nil) ∨ ∃ a len cap n,∃ (xs rest : List (DataW H × List MemPlace)),cs = [.slice (some a) len cap] ∧ len ≤ cap ∧ cap ≤ maxLen ∧ xs.length = len ∧ x.1 = .slice (xs.map (·.1)) (rest.map (·.1)) ∧
      ∀ i y,xs[i]? = some y → ∃ vs,W.cells? 0 (a.add (i * P.cellsOf e)) (P.cellsOf e) = some vs ∧ DataW.trod enc P W 0 (fun _ => true) true n e vs = some y:=by
  cases fuel with
  | zero => simp [DataW.trod] at h
  | succ n =>
    unfold DataW.trod at h
    rw [hu] at h
    split at h <;> rename_i h1 <;> simp only [Option.some.injEq,TypeDesc.slice.injEq,reduceCtorEq] at h1
    · cases h
      exact .inl ⟨rfl,rfl⟩
    · subst h1
      rename_i a len cap
      simp only at h
      split at h
      · rename_i hc
        simp only [Option.bind_eq_some_iff,Option.map_eq_some_iff] at h
        obtain ⟨xs,hx,rest,hr,rfl⟩:=h
        have key : ∀ (l : List Nat) (xs : List (DataW H × List MemPlace)),l.mapM (fun i => (W.cells? 0 (a.add (i * P.cellsOf e)) (P.cellsOf e)).bind (DataW.trod enc P W 0 (fun _ => true) true n e)) = some xs →
            xs.length = l.length ∧ ∀ (j : Nat) y,xs[j]? = some y → ∃ i,l[j]? = some i ∧ ∃ vs,W.cells? 0 (a.add (i * P.cellsOf e)) (P.cellsOf e) = some vs ∧ DataW.trod enc P W 0 (fun _ => true) true n e vs = some y:=by
          intro l
          induction l with
          | nil => intro xs h;simp at h;subst h;simp
          | cons i l ih =>
            intro xs h
            rw [List.mapM_cons] at h
            simp only [bind,Option.bind_eq_some_iff,pure,Option.some.injEq] at h
            obtain ⟨v,⟨vs,h1,h2⟩,xs',h3,rfl⟩:=h
            obtain ⟨g1,g2⟩:=ih xs' h3
            refine ⟨by simp [g1],fun j y hj => ?_⟩
            cases j with
            | zero => simp at hj;subst hj;exact ⟨i,rfl,vs,h1,h2⟩
            | succ j => simpa using g2 j y (by simpa using hj)
        obtain ⟨g1,g2⟩:=key _ _ hx
        refine .inr ⟨a,len,cap,n,xs,rest,rfl,hc.2.1,hc.2.2,by simpa using g1,rfl,fun i y hi => ?_⟩
        obtain ⟨i',h1,h2⟩:=g2 i y hi
        have : i' = i:=by
          obtain ⟨_,h⟩:=List.getElem?_eq_some_iff.1 h1
          simpa using h.symm
        subst this
        exact h2
      · cases h
    all_goals cases h
theorem fitF_nz : ∀ (s : Sh) (l : List (Nat × Nat)) (off : Nat),s.fitF E.tt l off = true → ∀ o u,(o,u) ∈ l → (E.tt u).sz ≠ 0
  | .nil,[],_,_,o,u,h => by cases h
  | .cons a b,(o',u') :: r,off,hf,o,u,h => by
    simp only [Sh.fitF,Bool.and_eq_true,beq_iff_eq,bne_iff_ne] at hf
    rcases List.mem_cons.1 h with e | h
    · cases e;rw [hf.1.1.2];exact hf.1.2
    · exact fitF_nz b r _ hf.2 o u h
  | .nil,_ :: _,off,hf,_,_,_ => by simp [Sh.fitF] at hf
  | .cons _ _,[],off,hf,_,_,_ => by simp [Sh.fitF] at hf
  | .int _,_,off,hf,_,_,_ => by simp [Sh.fitF] at hf
  | .bool,_,off,hf,_,_,_ => by simp [Sh.fitF] at hf
  | .str,_,off,hf,_,_,_ => by simp [Sh.fitF] at hf
  | .slc _,_,off,hf,_,_,_ => by simp [Sh.fitF] at hf
  | .st _,_,off,hf,_,_,_ => by simp [Sh.fitF] at hf
mutual
theorem Sh.read {H : Type} {enc : TypeId × Value → H} {W : World} : ∀ (s : Sh) (t : Nat),s.fit E.tt t = true → ∀ (fuel : Nat) (cs : List Value) (x : DataW H × List MemPlace),DataW.trod enc E.P W 0 (fun _ => true) true fuel t cs = some x →
    ∃ y : s.T,s.wf y ∧ Rep0s (fun b => b < W.heap.size) W (s.ds y) cs ∧ s.bulk y ≤ Rows.uptoBulk x.1
  | .int k,t,hf,fuel,cs,x,h => by
    simp only [Sh.fit,beq_iff_eq] at hf
    obtain ⟨n,rfl,rfl,hw⟩:=DataW.trod_int (und_int hf) h
    exact ⟨n,hw,⟨_,_,rfl,by simp [Rep0],rfl⟩,by simp [Sh.bulk,Rows.uptoBulk]⟩
  | .bool,t,hf,fuel,cs,x,h => by
    simp only [Sh.fit,beq_iff_eq] at hf
    obtain ⟨i,d,h1,h2,h3,_⟩:=kind_of hf (by simp)
    cases d <;> simp [tkOf] at h3
    obtain ⟨b,rfl,rfl⟩:=DataW.trod_bool h2 h
    exact ⟨b,trivial,⟨_,_,rfl,by simp [Rep0],rfl⟩,by simp [Sh.bulk,Rows.uptoBulk]⟩
  | .str,t,hf,fuel,cs,x,h => by
    simp only [Sh.fit,beq_iff_eq] at hf
    obtain ⟨b,rfl,rfl,hb⟩:=DataW.trod_string (und_str hf) h
    exact ⟨b.data.toList,by simpa [Sh.wf] using hb,⟨_,_,rfl,by simp [Rep0],rfl⟩,by simp [Sh.bulk,Rows.uptoBulk]⟩
  | .slc e,t,hf,fuel,cs,x,h => by
    simp only [Sh.fit] at hf
    split at hf
    · rename_i u hk
      simp only [Bool.and_eq_true,beq_iff_eq,bne_iff_ne] at hf
      obtain ⟨⟨⟨hf,hag⟩,hsz⟩,hz⟩:=hf
      have hzu : (E.tt u).sz ≠ 0:=by rw [hsz];exact hz
      rcases trod_slice (und_slc hk) h with ⟨rfl,hx⟩ | ⟨a,len,cap,n,xs,rest,rfl,hlc,hcm,hxl,hx,hel⟩
      · refine ⟨(none : Option (List e.T)),trivial,⟨_,_,rfl,by simp [Rep0],rfl⟩,by simp [Sh.bulk,hx,Rows.uptoBulk]⟩
      · rw [cellsOf_sz hzu] at hel
        have hy : ∀ i y,xs[i]? = some y → ∃ z : e.T,e.wf z ∧ e.bulk z ≤ Rows.uptoBulk y.1 ∧ ∃ b o vs,a.add (i * (E.tt u).sz) = ⟨b,o,none⟩ ∧ b < W.heap.size ∧ vs.length = (E.tt u).sz ∧ (∀ j v,vs[j]? = some v → W.cell? ⟨b,o + j,none⟩ = some v) ∧ Rep0s (fun b => b < W.heap.size) W (e.ds z) vs:=fun i y hi => by
          obtain ⟨vs,h1,h2⟩:=hel i y hi
          obtain ⟨z,z1,z2,z3⟩:=Sh.read e u hf n vs y h2
          obtain ⟨b,o,g1,g2,g3,g4⟩:=cells_at h1 hzu
          exact ⟨z,z1,z3,b,o,vs,g1,g2,g3,g4,z2⟩
        have hl : ∃ l : List e.T,l.length = len ∧ (∀ y,y ∈ l → e.wf y) ∧ (l.map e.bulk).sum ≤ Rows.uptoBulkAll (xs.map (·.1)) ∧ ∀ i z,l[i]? = some z → ∃ b o vs,a.add (i * (E.tt u).sz) = ⟨b,o,none⟩ ∧ b < W.heap.size ∧ vs.length = (E.tt u).sz ∧ (∀ j v,vs[j]? = some v → W.cell? ⟨b,o + j,none⟩ = some v) ∧ Rep0s (fun b => b < W.heap.size) W (e.ds z) vs:=by
          rw [← hxl]
          clear hel hx h hlc hcm hxl
          have : ∀ (k : Nat) (xs : List (DataW H × List MemPlace)),(∀ i y,xs[i]? = some y → ∃ z : e.T,e.wf z ∧ e.bulk z ≤ Rows.uptoBulk y.1 ∧ ∃ b o vs,a.add ((k + i) * (E.tt u).sz) = ⟨b,o,none⟩ ∧ b < W.heap.size ∧ vs.length = (E.tt u).sz ∧ (∀ j v,vs[j]? = some v → W.cell? ⟨b,o + j,none⟩ = some v) ∧ Rep0s (fun b => b < W.heap.size) W (e.ds z) vs) →
              ∃ l : List e.T,l.length = xs.length ∧ (∀ y,y ∈ l → e.wf y) ∧ (l.map e.bulk).sum ≤ Rows.uptoBulkAll (xs.map (·.1)) ∧ ∀ i z,l[i]? = some z → ∃ b o vs,a.add ((k + i) * (E.tt u).sz) = ⟨b,o,none⟩ ∧ b < W.heap.size ∧ vs.length = (E.tt u).sz ∧ (∀ j v,vs[j]? = some v → W.cell? ⟨b,o + j,none⟩ = some v) ∧ Rep0s (fun b => b < W.heap.size) W (e.ds z) vs:=by
            intro k xs
            induction xs generalizing k with
            | nil => intro _;exact ⟨[],rfl,by simp,by simp [Rows.uptoBulkAll],by simp⟩
            | cons y ys ih =>
              intro hy
              obtain ⟨z,z1,z2,z3⟩:=hy 0 y rfl
              obtain ⟨l,l1,l2,l3,l4⟩:=ih (k + 1) fun i y' hi => by
                have:=hy (i + 1) y' (by simpa using hi)
                rwa [show k + (i + 1) = k + 1 + i by omega] at this
              refine ⟨z :: l,by simp [l1],fun w hw => ?_, ?_,fun i w hi => ?_⟩
              · rcases List.mem_cons.1 hw with rfl | hw
                · exact z1
                · exact l2 w hw
              · simp only [List.map_cons,List.sum_cons,Rows.uptoBulkAll]
                omega
              · cases i with
                | zero => simp at hi;subst hi;exact z3
                | succ i =>
                  have:=l4 i w (by simpa using hi)
                  rwa [show k + 1 + i = k + (i + 1) by omega] at this
          have:=this 0 xs fun i y hi => by simpa using hy i y hi
          simpa using this
        obtain ⟨l,l1,l2,l3,l4⟩:=hl
        refine ⟨(some l : Option (List e.T)),⟨by omega,l2⟩,⟨_,_,rfl, ?_,rfl⟩, ?_⟩
        · simp only [Rep0]
          refine ⟨some a,cap,by rw [l1],by omega,by unfold maxLen at hcm;omega,fun hp => ?_⟩
          obtain ⟨b,o,vs,g1,g2,g3,g4,g5⟩:=l4 0 l[0] (by simp)
          obtain ⟨ab,ao,sp⟩:=a
          have e0 : (⟨ab,ao,sp⟩ : Addr) = ⟨b,o,none⟩:=by simpa [Addr.add] using g1
          cases e0
          refine ⟨b,o,rfl,g2,fun i hi => ?_⟩
          obtain ⟨b',o',vs',k1,k2,k3,k4,k5⟩:=l4 i l[i] (by simp [hi])
          rw [add_at] at k1
          cases k1
          rw [List.getElem?_eq_getElem hi]
          have hpl:=plains_one (e.ds_plain l[i]) k5
          have hat : At W b (o + i * e.size) vs':=fun j v hj => ⟨by rw [← hsz];exact k4 j v hj,hpl v (List.mem_of_getElem? hj)⟩
          cases hag2 : e.ag with
          | true => exact ⟨.agg ⟨vs'⟩,vs',by rw [← hsz];exact k3,hat,rfl,one_rep k5 (by simp) (by simp [Cells])⟩
          | false =>
            have h1:=e.size_one hag2 hf
            obtain ⟨v,rfl⟩ : ∃ v,vs' = [v]:=by
              match vs',k3.trans (hsz.trans h1) with
              | [v],_ => exact ⟨v,rfl⟩
            exact ⟨v,[v],by simp [h1],hat,rfl,one_rep k5 (fun _ => by rw [e.ds_length,h1]) (by simp [Cells])⟩
        · rw [hx]
          simp only [Sh.bulk,Rows.uptoBulk]
          omega
    · cases hf
  | .st fs,t,hf,fuel,cs,x,h => by
    simp only [Sh.fit] at hf
    split at hf
    · rename_i l hk
      simp only [Bool.and_eq_true,beq_iff_eq,bne_iff_ne] at hf
      obtain ⟨⟨hf,hsz⟩,hz⟩:=hf
      obtain ⟨F,hu,rfl⟩:=und_strct hk
      obtain ⟨xs,n,rfl,rfl,hl,hxl,hel⟩:=DataW.trod_struct hu h
      rw [cellsOf_sz (by rw [hsz];exact hz)] at hl
      obtain ⟨y,y1,y2,y3⟩:=Sh.readF (enc:=enc) (W:=W) fs _ 0 hf n cs xs (by omega) (by simp [hxl]) fun i o u hi => by
        have hm:=List.mem_of_getElem? hi
        rw [List.getElem?_map] at hi
        obtain ⟨f,hf',e⟩:=Option.map_eq_some_iff.1 hi
        cases e
        have:=hel i f (by simpa using hf')
        rwa [cellsOf_sz (fitF_nz fs _ 0 hf _ _ hm)] at this
      exact ⟨y,y1,by simp only [Sh.ds];simpa using y2,by simp only [Sh.bulk,Rows.uptoBulk];omega⟩
    · rename_i m u hk
      simp only [Bool.and_eq_true,beq_iff_eq,bne_iff_ne] at hf
      obtain ⟨⟨hf,hsz⟩,hz⟩:=hf
      obtain ⟨xs,n,rfl,rfl,hl,hxl,hel⟩:=DataW.trod_array (und_arr hk) h
      rw [cellsOf_sz (by rw [hsz];exact hz)] at hl
      obtain ⟨y,y1,y2,y3⟩:=Sh.readF (enc:=enc) (W:=W) fs _ 0 hf n cs xs (by omega) (by simp [hxl]) fun i o v hi => by
        have hm:=List.mem_of_getElem? hi
        rw [List.getElem?_map] at hi
        obtain ⟨i',hi',e⟩:=Option.map_eq_some_iff.1 hi
        cases e
        obtain ⟨hlt,e⟩:=List.getElem?_eq_some_iff.1 hi'
        simp only [List.getElem_range] at e
        subst e
        have:=hel i (by simpa using hlt)
        rwa [cellsOf_sz (fitF_nz fs _ 0 hf _ _ hm)] at this
      exact ⟨y,y1,by simp only [Sh.ds];simpa using y2,by simp only [Sh.bulk,Rows.uptoBulk];omega⟩
    · cases hf
  | .nil,t,hf,fuel,cs,x,h => by simp [Sh.fit] at hf
  | .cons _ _,t,hf,fuel,cs,x,h => by simp [Sh.fit] at hf
theorem Sh.readF {H : Type} {enc : TypeId × Value → H} {W : World} : ∀ (s : Sh) (l : List (Nat × Nat)) (off : Nat),s.fitF E.tt l off = true → ∀ (fuel : Nat) (cs : List Value) (xs : List (DataW H × List MemPlace)),cs.length = off + s.size → xs.length = l.length →
    (∀ (i o u : Nat),l[i]? = some (o,u) → DataW.trod enc E.P W 0 (fun _ => true) true fuel u ((cs.drop o).take (E.tt u).sz) = xs[i]?) → ∃ y : s.T,s.wf y ∧ Rep0s (fun b => b < W.heap.size) W (s.ds y) (cs.drop off) ∧ s.bulk y ≤ Rows.uptoBulkAll (xs.map (·.1))
  | .nil,[],off,hf,fuel,cs,xs,hc,hx,hel => by
    obtain rfl : xs = []:=by simpa using hx
    have : cs.drop off = []:=by simp [Sh.size] at hc;simp;omega
    exact ⟨(),trivial,by simp [Sh.ds,Rep0s,this],by simp [Sh.bulk]⟩
  | .cons a b,(o,u) :: r,off,hf,fuel,cs,xs,hc,hx,hel => by
    simp only [Sh.fitF,Bool.and_eq_true,beq_iff_eq,bne_iff_ne] at hf
    obtain ⟨⟨⟨⟨rfl,hfa⟩,hsz⟩,hz⟩,hfb⟩:=hf
    cases xs with
    | nil => simp at hx
    | cons x xs =>
      have h0:=hel 0 o u rfl
      simp only [List.getElem?_cons_zero] at h0
      obtain ⟨ya,a1,a2,a3⟩:=Sh.read a u hfa fuel _ x h0
      obtain ⟨yb,b1,b2,b3⟩:=Sh.readF b r (o + a.size) hfb fuel cs xs (by simp only [Sh.size] at hc;omega) (by simpa using hx) fun i o' u' hi => by
        have:=hel (i + 1) o' u' (by simpa using hi)
        simpa using this
      refine ⟨(ya,yb),⟨a1,b1⟩, ?_, ?_⟩
      · have:=a2.app b2
        rw [hsz,← List.drop_drop,List.take_append_drop] at this
        exact this
      · simp only [Sh.bulk,List.map_cons,Rows.uptoBulkAll]
        omega
  | .nil,_ :: _,off,hf,_,_,_,_,_,_ => by simp [Sh.fitF] at hf
  | .cons _ _,[],off,hf,_,_,_,_,_,_ => by simp [Sh.fitF] at hf
  | .int _,_,off,hf,_,_,_,_,_,_ => by simp [Sh.fitF] at hf
  | .bool,_,off,hf,_,_,_,_,_,_ => by simp [Sh.fitF] at hf
  | .str,_,off,hf,_,_,_,_,_,_ => by simp [Sh.fitF] at hf
  | .slc _,_,off,hf,_,_,_,_,_,_ => by simp [Sh.fitF] at hf
  | .st _,_,off,hf,_,_,_,_,_,_ => by simp [Sh.fitF] at hf
end
theorem read_arg {H : Type} {enc : TypeId × Value → H} {W : World} (s : Sh) (t : Nat) (hf : s.fit E.tt t = true) {base : Nat} {v : Value} (hval : Value.okWide E.P W .any base t v) {d : DataW H} {ps : List MemPlace} (h : DataW.Trod enc E.P W 0 (fun _ => true) true t v d ps) :
    ∃ y : s.T,s.wf y ∧ Rep0 (fun b => b < W.heap.size) W (s.d y) v ∧ s.bulk y ≤ Rows.uptoBulk d:=by
  obtain ⟨fuel,h⟩:=h
  obtain ⟨y,y1,y2,y3⟩:=s.read t hf fuel _ _ h
  refine ⟨y,y1,one_rep y2 (fun hag => by rw [s.ds_length,s.size_one hag hf]) ?_,y3⟩
  cases s with
  | st fs =>
    simp only [Sh.fit] at hf
    have : ∃ cs,v = .agg cs:=by
      split at hf
      · rename_i l hk
        obtain ⟨F,hu,rfl⟩:=und_strct hk
        unfold Value.okWide at hval
        rw [hu] at hval
        obtain ⟨cs,e,_⟩:=hval
        exact ⟨cs,e⟩
      · rename_i m u hk
        unfold Value.okWide at hval
        rw [und_arr hk] at hval
        obtain ⟨cs,e,_⟩:=hval
        exact ⟨cs,e⟩
      · cases hf
    obtain ⟨cs,rfl⟩:=this
    simp [Cells,Sh.ag,Value.cells]
  | nil => simp [Sh.fit] at hf
  | cons => simp [Sh.fit] at hf
  | int k =>
    simp only [Sh.fit,beq_iff_eq] at hf
    simp only [Value.okWide,und_int hf,Cell.okWide] at hval
    cases v <;> first | (simp [Cell.ok,und_int hf] at hval;done) | simp [Cells,Sh.ag,Value.cells]
  | bool =>
    simp only [Sh.fit,beq_iff_eq] at hf
    obtain ⟨i,dd,h1,h2,h3,_⟩:=kind_of hf (by simp)
    cases dd <;> simp [tkOf] at h3
    simp only [Value.okWide,h2,Cell.okWide] at hval
    cases v <;> first | (simp [Cell.ok,h2] at hval;done) | simp [Cells,Sh.ag,Value.cells]
  | str =>
    simp only [Sh.fit,beq_iff_eq] at hf
    simp only [Value.okWide,und_str hf,Cell.okWide] at hval
    cases v <;> first | (simp [Cell.ok,und_str hf] at hval;done) | simp [Cells,Sh.ag,Value.cells]
  | slc e =>
    simp only [Sh.fit] at hf
    split at hf
    · rename_i u hk
      simp only [Value.okWide,und_slc hk,Cell.okWide] at hval
      cases v <;> first | (simp [Cell.ok,und_slc hk] at hval;done) | simp [Cells,Sh.ag,Value.cells]
    · cases hf
theorem law_callsG {f : Nat} {ds : List D} {vs : List Value} {W : World} (hg : GOK E (fun b => b < W.heap.size) W) (hC : C E f ds (.bool true)) (hr : Rep0s (fun b => b < W.heap.size) W ds vs) : Calls E.P f ⟨vs⟩ W fun e W' => e = .returned (.bool true) ∧ Below W.heap.size W W':=by
  refine (hC.2 (fun b => b < W.heap.size) W vs (fun _ => none) (fun _ h => h) hg ⟨fun b x h => (by cases h),fun b b' x x' c t t' h => (by cases h)⟩ (fun c ⟨b,x,t,h,_⟩ => (by cases h)) (Rep0s.toV _ _ hr)).mono ?_
  rintro e W' ⟨v,S',φ',rfl,h1,_,_,_,h5,_⟩
  simp only [RepV,Rep0] at h1
  subst h1
  exact ⟨rfl,⟨h5.os,h5.tape,h5.output,h5.size,fun k hk => h5.block k hk fun ⟨b,x,t,h,_⟩ => (by cases h)⟩⟩
theorem Wk.nil {n : Nat} {e : Nat → D} {h : Hp} {nx : Nat} (t0 : Nat) (ag : Bool) (sz : Nat) (f : Nat → D) (he : e t0 = .nils) (hsz : n ≤ nx) : Wk n ⟨e,h,nx⟩ ⟨upd e t0 (.sl nx 0 0 0),(nx, .row false 0 ag sz 0 f) :: h,nx + 1⟩:=by
  intro B φ S a w hnB hr
  let φ' : Ph:=fun b => if b = nx then none else φ b
  have hne : ∀ b x,lookB h b = some x → b ≠ nx:=fun b x hl e => by have:=hr.nx b x hl;simp only at this;omega
  have hlk : ∀ b x,lookB h b = some x → lookB ((nx,Blk.row false 0 ag sz 0 f) :: h) b = some x:=fun b x hl => by
    simp only [lookB];rw [if_neg (hne b x hl)];exact hl
  have hlk' : ∀ b x,lookB ((nx,Blk.row false 0 ag sz 0 f) :: h) b = some x → (b = nx ∧ x = .row false 0 ag sz 0 f) ∨ (b ≠ nx ∧ lookB h b = some x):=fun b x hl => by
    simp only [lookB] at hl
    split at hl
    · rename_i e;cases hl;exact .inl ⟨e,rfl⟩
    · rename_i e;exact .inr ⟨e,hl⟩
  have hx : HpExt h φ ((nx, .row false 0 ag sz 0 f) :: h) φ':=fun b =>
    ⟨fun ag' sz' d ty hl => ⟨⟨d,hlk _ _ hl⟩,if_neg (hne _ _ hl)⟩,fun fz ver ag' sz' m g ty hl => ⟨fz,ver,m,g,ty,hlk _ _ hl,Nat.le_refl _,fun _ => ⟨Nat.le_refl _,if_neg (hne _ _ hl)⟩⟩⟩
  have hk : Kept S w w:=fun _ _ => rfl
  refine ⟨φ',S,fun t => ?_,hr.size,⟨fun b x hl => ?_,fun b b' x x' c t t' hl hl' hp hp' => ?_⟩,fun b x hl => ?_,hr.slt,fun b x c t hl hp => ?_,fun b x c t hl hp => ?_,hr.s0,hr.s1,hr.below, ?_, ?_, ?_⟩
  · by_cases e : t = t0
    · subst e
      have hv:=hr.env t
      simp only [he,RepV,Rep0] at hv
      simp only [upd,if_true,RepV]
      exact ⟨false,0,ag,sz,0,f,0,by simp [lookB],Nat.le_refl _,fun _ => ⟨by omega,none,0,hv,by omega,fun _ => ⟨rfl,rfl⟩,fun c tot hc => by simp [φ'] at hc⟩⟩
    · simp only [upd,if_neg e]
      exact RepV.mono hx hk (fun _ h => h) _ _ (hr.env t)
  · rcases hlk' b x hl with ⟨rfl,rfl⟩ | ⟨hb,hl⟩
    · exact ⟨fun _ => rfl,fun c tot hc => by simp [φ'] at hc⟩
    · exact BlkAt.move hx hk (fun _ h => h) (if_neg hb) (fun _ _ _ => rfl) (fun _ _ _ h => h) (hr.hp.blk b x hl)
  · rcases hlk' b x hl with ⟨rfl,rfl⟩ | ⟨hb,hl⟩
    · simp [φ'] at hp
    · rcases hlk' b' x' hl' with ⟨rfl,rfl⟩ | ⟨hb',hl'⟩
      · simp [φ'] at hp'
      · simp only [φ',if_neg hb] at hp
        simp only [φ',if_neg hb'] at hp'
        exact hr.hp.inj b b' x x' c t t' hl hl' hp hp'
  · rcases hlk' b x hl with ⟨rfl,rfl⟩ | ⟨hb,hl⟩
    · exact Nat.lt_succ_self _
    · exact Nat.lt_succ_of_lt (hr.nx b x hl)
  · rcases hlk' b x hl with ⟨rfl,rfl⟩ | ⟨hb,hl⟩
    · simp [φ'] at hp
    · simp only [φ',if_neg hb] at hp;exact hr.plt b x c t hl hp
  · rcases hlk' b x hl with ⟨rfl,rfl⟩ | ⟨hb,hl⟩
    · simp [φ'] at hp
    · simp only [φ',if_neg hb] at hp;exact hr.old b x c t hl hp
  · refine hr.ext.trans hx fun b hb => ?_
    obtain ⟨x,hl⟩:=Option.isSome_iff_exists.1 hb
    rcases hlk' b x hl with ⟨rfl,rfl⟩ | ⟨hb,hl⟩
    · right
      cases h0 : lookB B.h0 b with
      | none => rfl
      | some y => have h1:=mx_lt h0;have h2:=hr.nx0;simp only at h2;omega
    · left;rw [hl];rfl
  · exact Nat.le_succ_of_le hr.nx0
  · refine hr.def0.move fun D h1 h2 h3 h4 => ⟨rfl,h3,fun b x c t hl hp => ?_⟩
    rcases hlk' b x hl with ⟨rfl,rfl⟩ | ⟨hb,hl⟩
    · simp [φ'] at hp
    · simp only [φ',if_neg hb] at hp;exact h4 b x c t hl hp
theorem AL.ofN (t0 : Nat) (ag : Bool) (sz : Nat) (f : Nat → D) {α : Type} (P : α → Prop) (μ : α → Nat) (L : α → List (Nat × D)) (H : α → Hp) (x : α) {F : (Exit → St → Prop) → St → Prop} {Q : Exit → St → Prop} {e : Nat → D} {h : Hp} {nx : Nat} (he : e t0 = .nils) (hx : P x)
    (hL : EnvLe (kp (H x)) ((nx, .row false 0 ag sz 0 f) :: h) (upd e t0 (.sl nx 0 0 0)) (L x)) (hH : HLe (kp (H x)) ((nx, .row false 0 ag sz 0 f) :: h) (H x))
    (hm : ∀ x,P x → mx (H x) ≤ nx + 1) (round : ∀ x,P x → F (thn (Nxt P μ L H x) Q) ⟨look .unk (L x),H x,nx + 1⟩) : AL F Q ⟨e,h,nx⟩:=by
  refine AL.inv (fun n s => ∃ x,P x ∧ μ x = n ∧ s = ⟨look .unk (L x),H x,nx + 1⟩) (μ x) _ _ ((Wk.nil t0 ag sz f he (Nat.le_refl _)).trans (Wk.gen (L x) (H x) (nx + 1) (Nat.le_succ _) (hm x hx) hL hH)) ⟨x,hx,rfl,rfl⟩ ?_
  rintro n s ⟨x,hx,rfl,rfl⟩
  refine ⟨Nxt P μ L H x, ?_,round x hx⟩
  rintro ⟨e',h',nx'⟩ ⟨x',h1,h2,h3,h4⟩
  exact ⟨μ x',h2,_,Wk.gen (L x') (H x') (nx + 1) (Nat.le_succ _) (hm x' h1) h3 h4,x',h1,rfl,rfl⟩
def EnvEq (e : Nat → D) : List (Nat × D) → Prop
  | [] => True
  | (t,d) :: r => e t = d ∧ EnvEq e r
theorem EnvEq_nil (e : Nat → D) : EnvEq e [] = True:=Eq.trans rfl rfl
theorem EnvEq_cons (e : Nat → D) (t : Nat) (d : D) (r : List (Nat × D)) : EnvEq e ((t,d) :: r) = (e t = d ∧ EnvEq e r):=Eq.trans rfl rfl
attribute [go_sem] EnvEq_nil EnvEq_cons
theorem dlt_t {a b : Int} (h : a < b) : decide (a < b) = true:=decide_eq_true h
theorem dlt_f {a b : Int} (h : b ≤ a) : decide (a < b) = false:=decide_eq_false (by omega)
theorem dle_t {a b : Int} (h : a ≤ b) : decide (a ≤ b) = true:=decide_eq_true h
theorem dle_f {a b : Int} (h : b < a) : decide (a ≤ b) = false:=decide_eq_false (by omega)
theorem ieq_t {a b : Int} (h : a = b) : (a == b) = true:=by simp [h]
theorem ieq_f {a b : Int} (h : a < b ∨ b < a) : (a == b) = false:=by rw [beq_eq_false_iff_ne];omega
theorem ine_t {a b : Int} (h : a < b ∨ b < a) : (a != b) = true:=by rw [bne_iff_ne];omega
theorem ine_f {a b : Int} (h : a = b) : (a != b) = false:=by simp [h]
attribute [go_sem] dlt_t dlt_f dle_t dle_f ieq_t ieq_f ine_t ine_f
def bR (l : List UInt8) : Nat → D:=fun i => .int .u8 ((l.getD i 0).toNat : Int)
theorem bR_app (l xs : List UInt8) {i : Nat} (h : i < (l ++ xs).length) : (if i < l.length then bR l i else (xs.map fun c => D.int .u8 (c.toNat : Int)).getD (i - l.length) .unk) = bR (l ++ xs) i:=by
  unfold bR
  by_cases hi : i < l.length
  · rw [if_pos hi]
    congr 2
    rw [List.getD_eq_getElem?_getD,List.getD_eq_getElem?_getD,List.getElem?_append_left hi]
  · rw [if_neg hi]
    rw [List.length_append] at h
    rw [List.getD_eq_getElem?_getD,List.getD_eq_getElem?_getD,List.getElem?_append_right (by omega),List.getElem?_map,List.getElem?_eq_getElem (by omega)]
    rfl
theorem bstr_of {h : Hp} {b ver n : Nat} {z z' : Bool} {k m : Nat} {f : Nat → D} {l : List UInt8} (e : lookB h b = some (.row z ver z' k m f)) (hn : n = l.length) (hf : ∀ i,i < n → f i = bR l i) : bstr h (.sl b ver 0 n) = some (.str l):=by
  subst hn
  simp only [bstr,e,if_true,Nat.zero_add]
  have : ∀ i,i < l.length → isU8 (f i) = true:=fun i hi => by rw [hf i hi];rfl
  rw [grd,if_pos this]
  congr 2
  refine List.ext_getElem (by simp) fun i h1 h2 => ?_
  simp only [List.getElem_map,List.getElem_range,hf i h2,bR,u8Of,List.getD_eq_getElem?_getD,List.getElem?_eq_getElem h2,Option.getD_some,Int.toNat_natCast,UInt8.ofNat_toNat]
theorem bits_or (a b : Nat) (ha : a < 18446744073709551616) (hb : b < 18446744073709551616) : bits .u64 .or (a : Int) (b : Int) = ((a ||| b : Nat) : Int):=by
  have e : ∀ v : Nat,v < 18446744073709551616 → (BitVec.ofInt IntKind.u64.bits (v : Int)).toNat = v:=fun v hv => by
    show (BitVec.ofInt 64 (v : Int)).toNat = v
    simp;omega
  have hlt : a ||| b < 18446744073709551616:=Nat.or_lt_two_pow (n:=64) ha hb
  unfold bits
  simp only [BitVec.toNat_or,e a ha,e b hb]
  rw [wrap_u64 (by omega)]
theorem or_add (i a b : Nat) (h : b < 2 ^ i) : b ||| 2 ^ i * a = b + 2 ^ i * a:=by
  rw [Nat.or_comm,← Nat.two_pow_add_eq_or_of_lt h,Nat.add_comm]
theorem bits_and (a b : Nat) (ha : a < 18446744073709551616) (hb : b < 18446744073709551616) : bits .u64 .and (a : Int) (b : Int) = ((a &&& b : Nat) : Int):=by
  have e : ∀ v : Nat,v < 18446744073709551616 → (BitVec.ofInt IntKind.u64.bits (v : Int)).toNat = v:=fun v hv => by
    show (BitVec.ofInt 64 (v : Int)).toNat = v
    simp;omega
  have hlt : a &&& b < 18446744073709551616:=Nat.and_lt_two_pow (n:=64) _ hb
  unfold bits
  simp only [BitVec.toNat_and,e a ha,e b hb]
  rw [wrap_u64 (by omega)]
theorem bits_and127 (a : Nat) (ha : a < 18446744073709551616) : bits .u64 .and (a : Int) 127 = ((a % 128 : Nat) : Int):=by
  have:=bits_and a 127 ha (by omega)
  rw [show (127 : Nat) = 2 ^ 7 - 1 from rfl,Nat.and_two_pow_sub_one_eq_mod] at this
  exact this
theorem u8_lit {n : Nat} (h : n < 256) : ((n : Nat) : Int) = ((UInt8.ofNat n).toNat : Int):=by
  rw [UInt8.toNat_ofNat',Nat.mod_eq_of_lt (by omega)]
def limbs (n : Nat) : List Nat:=if h : n = 0 then [] else n % 4294967296 :: limbs (n / 4294967296)
termination_by n
decreasing_by omega
def val : List Nat → Nat
  | [] => 0
  | x :: r => x + 4294967296 * val r
def lows (l : List Nat) : Prop:=∀ x ∈ l,x < 4294967296
def u32s (l : List Nat) : D:=.ro false 1 l.length fun i => .int .u32 ((l.getD i 0 : Nat) : Int)
def natD (n : Nat) : D:=.agg [u32s (limbs n)]
theorem limbs_zero : limbs 0 = []:=by unfold limbs;simp
theorem limbs_pos {n : Nat} (h : n ≠ 0) : limbs n = n % 4294967296 :: limbs (n / 4294967296):=by rw [limbs];simp [h]
theorem val_limbs (n : Nat) : val (limbs n) = n:=by
  induction n using Nat.strongRecOn with
  | _ n ih =>
    by_cases h : n = 0
    · subst h;rw [limbs_zero];rfl
    · rw [limbs_pos h]
      simp only [val]
      rw [ih _ (by omega)]
      omega
theorem limbs_low (n : Nat) : lows (limbs n):=by
  induction n using Nat.strongRecOn with
  | _ n ih =>
    by_cases h : n = 0
    · subst h;rw [limbs_zero];intro x hx;cases hx
    · rw [limbs_pos h]
      intro x hx
      rcases List.mem_cons.1 hx with rfl | hx
      · omega
      · exact ih _ (by omega) x hx
theorem val_append (a b : List Nat) : val (a ++ b) = val a + 4294967296 ^ a.length * val b:=by
  induction a with
  | nil => simp [val]
  | cons x a ih => simp only [List.cons_append,val,ih,List.length_cons,Nat.pow_succ,Nat.mul_add,Nat.mul_assoc,Nat.mul_comm,Nat.mul_left_comm,Nat.add_assoc]
theorem val_zero_iff {l : List Nat} : val l = 0 ↔ ∀ x ∈ l,x = 0:=by
  induction l with
  | nil => simp [val]
  | cons x l ih => simp only [val,List.forall_mem_cons,← ih];omega
theorem lows.cons {x : Nat} {l : List Nat} (h : lows (x :: l)) : x < 4294967296 ∧ lows l:=⟨h x (by simp),fun y hy => h y (by simp [hy])⟩
theorem limbs_val {l : List Nat} (hl : lows l) (h : ∀ k,k + 1 = l.length → l.getD k 0 ≠ 0) : limbs (val l) = l:=by
  induction l with
  | nil => exact limbs_zero
  | cons x l ih =>
    obtain ⟨h1,h2⟩:=hl.cons
    have ih':=ih h2 fun k hk => by
      have:=h (k + 1) (by simp;omega)
      simpa using this
    have hne : val (x :: l) ≠ 0:=by
      intro e
      have:=val_zero_iff.1 e
      have h3:=h l.length (by simp)
      rw [List.getD_eq_getElem?_getD] at h3
      have h4 : (x :: l)[l.length]? = some ((x :: l)[l.length]'(by simp)):=List.getElem?_eq_getElem (by simp)
      rw [h4] at h3
      exact h3 (this _ (List.getElem_mem _))
    rw [limbs_pos hne]
    simp only [val]
    rw [show (x + 4294967296 * val l) % 4294967296 = x by omega,show (x + 4294967296 * val l) / 4294967296 = val l by omega,ih']
theorem val_take {l : List Nat} {k : Nat} (hk : k < l.length) (h : l.getD k 0 = 0) : val (l.take (k + 1)) = val (l.take k):=by
  have : l.take (k + 1) = l.take k ++ [l.getD k 0]:=by
    rw [List.take_add_one,List.getD_eq_getElem?_getD,List.getElem?_eq_getElem hk]
    rfl
  rw [this,val_append,h]
  simp [val]
theorem lows.take {l : List Nat} (h : lows l) (k : Nat) : lows (l.take k):=fun x hx => h x (List.mem_of_mem_take hx)
theorem lows.getD {l : List Nat} (h : lows l) (k : Nat) : l.getD k 0 < 4294967296:=by
  rw [List.getD_eq_getElem?_getD]
  cases hk : l[k]? with
  | none => simp
  | some x => exact h x (List.mem_of_getElem? hk)
theorem getD_take {l : List Nat} {k i : Nat} (h : i < k) : (l.take k).getD i 0 = l.getD i 0:=by
  rw [List.getD_eq_getElem?_getD,List.getD_eq_getElem?_getD,List.getElem?_take,if_pos h]
def nb (n : Nat) : Nat:=(limbs n).length
theorem nb_lt {n k : Nat} : nb n ≤ k ↔ n < 4294967296 ^ k:=by
  unfold nb
  induction k generalizing n with
  | zero =>
    by_cases h : n = 0
    · subst h;simp [limbs_zero]
    · rw [limbs_pos h];simp [h]
  | succ k ih =>
    by_cases h : n = 0
    · subst h;simp [limbs_zero,Nat.pow_pos]
    · rw [limbs_pos h,List.length_cons,Nat.pow_succ,Nat.add_le_add_iff_right,ih]
      exact Nat.div_lt_iff_lt_mul (by omega)
section
variable (n : Nat) (l : List Nat) (h : Hp) (ρ : Nat → Option Nat)
theorem flat_nat : flat (natD n) = false:=Eq.trans rfl rfl
theorem imp_nat : imp ρ h (natD n) = natD n:=Eq.trans rfl rfl
theorem refs_nat : refs ρ (natD n) = []:=Eq.trans rfl rfl
theorem asAgg_nat : asAgg (natD n) = some [u32s (limbs n)]:=Eq.trans rfl rfl
theorem cl_u32s : cl (u32s l) = true:=Eq.trans rfl rfl
theorem flat_u32s : flat (u32s l) = false:=Eq.trans rfl rfl
theorem imp_u32s : imp ρ h (u32s l) = u32s l:=Eq.trans rfl rfl
theorem one_u32s : one h (u32s l) = true:=Eq.trans rfl rfl
end
theorem guess_down {g r U x v1 v2 P V W : Nat} (h1 : g * v1 + r = U) (h2 : r * 4294967296 + x < g * v2) (hV : (v1 * 4294967296 + v2) * P ≤ V) (hW : W < (U * 4294967296 + x + 1) * P) : W < g * V:=by
  have h3 : U * 4294967296 + x + 1 ≤ g * (v1 * 4294967296 + v2):=by
    rw [Nat.mul_add,← h1,← Nat.mul_assoc]
    generalize g * v1 = a at *
    generalize g * v2 = b at *
    omega
  calc W < (U * 4294967296 + x + 1) * P:=hW
    _ ≤ g * (v1 * 4294967296 + v2) * P:=Nat.mul_le_mul_right _ h3
    _ = g * ((v1 * 4294967296 + v2) * P):=Nat.mul_assoc _ _ _
    _ ≤ g * V:=Nat.mul_le_mul_left _ hV
theorem guess_done {g r U x v1 v2 P V W : Nat} (h1 : g * v1 + r = U) (h2 : g * v2 ≤ r * 4294967296 + x) (hg : g < 4294967296) (hV : V < (v1 * 4294967296 + v2 + 1) * P) (hP : 4294967296 * P ≤ V) (hW : (U * 4294967296 + x) * P ≤ W) : g * V < W + V:=by
  have h3 : g * (v1 * 4294967296 + v2) ≤ U * 4294967296 + x:=by
    rw [Nat.mul_add,← h1,← Nat.mul_assoc]
    generalize g * v1 = a at *
    generalize g * v2 = b at *
    omega
  have h4 : g * (v1 * 4294967296 + v2) * P ≤ W:=Nat.le_trans (Nat.mul_le_mul_right _ h3) hW
  have h5 : g * V ≤ g * (v1 * 4294967296 + v2) * P + g * P:=by
    rw [Nat.mul_assoc,← Nat.mul_add]
    refine Nat.mul_le_mul_left _ ?_
    have : (v1 * 4294967296 + v2 + 1) * P = (v1 * 4294967296 + v2) * P + P:=by rw [Nat.add_mul,Nat.one_mul]
    omega
  by_cases hg0 : g = 0
  · subst hg0
    have : 0 < V:=by
      rcases Nat.eq_zero_or_pos V with h | h
      · subst h
        have hP0 : P = 0:=by omega
        subst hP0
        simp at hV
      · exact h
    omega
  have h6 : g * P < V:=by
    rcases Nat.eq_zero_or_pos P with h | h
    · subst h;simp at hV
    · exact Nat.lt_of_lt_of_le (Nat.mul_lt_mul_of_pos_right hg h) hP
  omega
theorem div_of {g V W : Nat} (h1 : g * V ≤ W) (h2 : W < g * V + V) : W / V = g ∧ W % V = W - g * V:=by
  have hV : 0 < V:=by omega
  have h3 : W / V = g:=by
    rw [Nat.div_eq_iff hV]
    constructor
    · rw [Nat.mul_comm] at h1 ⊢;omega
    · rw [Nat.mul_comm] at h2 ⊢;omega
  refine ⟨h3, ?_⟩
  have:=Nat.div_add_mod W V
  rw [h3,Nat.mul_comm] at this
  omega
theorem val_cut (l : List Nat) (k : Nat) (hk : k ≤ l.length) : val l = val (l.take k) + 4294967296 ^ k * val (l.drop k):=by
  conv => lhs;rw [← List.take_append_drop k l,val_append,List.length_take,Nat.min_eq_left hk]
theorem val_ltB {l : List Nat} (h : lows l) : val l < 4294967296 ^ l.length:=by
  induction l with
  | nil => simp [val]
  | cons x l ih =>
    obtain ⟨h1,h2⟩:=h.cons
    have:=ih h2
    simp only [val,List.length_cons,Nat.pow_succ]
    generalize 4294967296 ^ l.length = p at *
    omega
theorem lows_take {l : List Nat} (h : lows l) (k : Nat) : lows (l.take k):=fun x hx => h x (List.mem_of_mem_take hx)
theorem lows_drop {l : List Nat} (h : lows l) (k : Nat) : lows (l.drop k):=fun x hx => h x (List.mem_of_mem_drop hx)
theorem lows_app {a b : List Nat} (h : lows a) (h' : lows b) : lows (a ++ b):=fun x hx => by
  rcases List.mem_append.1 hx with hx | hx
  · exact h x hx
  · exact h' x hx
theorem lows_set {l : List Nat} (h : lows l) {k x : Nat} (hx : x < 4294967296) : lows (l.set k x):=fun y hy => by
  rcases List.mem_or_eq_of_mem_set hy with h1 | h1
  · exact h y h1
  · omega
theorem lows_rep (n : Nat) : lows (List.replicate n 0):=fun x hx => by
  rw [(List.mem_replicate.1 hx).2];omega
theorem val_rep (n : Nat) : val (List.replicate n 0) = 0:=by
  induction n with
  | zero => rfl
  | succ n ih => rw [List.replicate_succ,val,ih]
theorem lows_getD {l : List Nat} (h : lows l) (k : Nat) : l.getD k 0 < 4294967296:=by
  rw [List.getD_eq_getElem?_getD]
  cases hk : l[k]? with
  | none => simp
  | some x => exact h x (List.mem_of_getElem? hk)
theorem val_take_succ (l : List Nat) (k : Nat) : val (l.take (k + 1)) = val (l.take k) + 4294967296 ^ k * l.getD k 0:=by
  by_cases hk : k < l.length
  · have : l.take (k + 1) = l.take k ++ [l.getD k 0]:=by
      rw [List.take_add_one,List.getD_eq_getElem?_getD,List.getElem?_eq_getElem hk]
      rfl
    rw [this,val_append,List.length_take,Nat.min_eq_left (by omega)]
    simp [val]
  · rw [List.take_of_length_le (by omega),List.take_of_length_le (by omega),List.getD_eq_getElem?_getD,List.getElem?_eq_none (by omega)]
    simp
theorem take_step {g x y c b d b' : Nat} (hg : g < 4294967296) (hx : x < 4294967296) (hy : y < 4294967296) (hc : c < 4294967296) (hb : b ≤ 1)
    (h : (x : Int) - b - ((c + g * y) % 4294967296 : Nat) = d - 4294967296 * (b' : Int)) (hd : d < 4294967296) :
    d + g * y + (c + b) = x + 4294967296 * (b' + (c + g * y) / 4294967296) ∧ (c + g * y) / 4294967296 < 4294967296 ∧ b' ≤ 1:=by
  have h1 : g * y ≤ 4294967295 * 4294967295:=Nat.mul_le_mul (by omega) (by omega)
  generalize g * y = p at *
  omega
theorem drop_two (l : List Nat) (k : Nat) (h : l.length = k + 2) : l.drop k = [l.getD k 0,l.getD (k + 1) 0]:=by
  rw [List.drop_eq_getElem_cons (by omega),List.drop_eq_getElem_cons (by omega),List.drop_of_length_le (by omega)]
  rw [List.getD_eq_getElem?_getD,List.getD_eq_getElem?_getD,List.getElem?_eq_getElem (by omega),List.getElem?_eq_getElem (by omega)]
  rfl
theorem drop_three (l : List Nat) (k : Nat) (h : l.length = k + 3) : l.drop k = [l.getD k 0,l.getD (k + 1) 0,l.getD (k + 2) 0]:=by
  rw [List.drop_eq_getElem_cons (by omega),drop_two l (k + 1) (by omega)]
  rw [List.getD_eq_getElem?_getD (i:=k),List.getElem?_eq_getElem (by omega)]
  rfl
structure Gue (V W P v1 v2 U x : Nat) : Prop where
  lo : (v1 * 4294967296 + v2) * P ≤ V
  hi : V < (v1 * 4294967296 + v2 + 1) * P
  wlo : (U * 4294967296 + x) * P ≤ W
  whi : W < (U * 4294967296 + x + 1) * P
  lx : x < 4294967296
  l2 : v2 < 4294967296
  l1 : v1 < 4294967296
  big : 2147483648 ≤ v1
  pos : 0 < P
  less : W < 4294967296 * V
theorem Gue.of {w v : List Nat} {k : Nat} (hw : lows w) (hv : lows v) (lw : w.length = k + 3) (lv : v.length = k + 2) (hb : 2147483648 ≤ v.getD (k + 1) 0) (hl : val w < 4294967296 * val v) :
    Gue (val v) (val w) (4294967296 ^ k) (v.getD (k + 1) 0) (v.getD k 0) (w.getD (k + 2) 0 * 4294967296 + w.getD (k + 1) 0) (w.getD k 0):=by
  have h1:=val_cut v k (by omega)
  have h2:=val_cut w k (by omega)
  have h3:=val_ltB (lows_take hv k)
  have h4:=val_ltB (lows_take hw k)
  rw [List.length_take,Nat.min_eq_left (by omega)] at h3 h4
  rw [drop_two v k lv] at h1
  rw [drop_three w k lw] at h2
  simp only [val,Nat.mul_zero,Nat.add_zero] at h1 h2
  have hP : 0 < 4294967296 ^ k:=Nat.pow_pos (by omega)
  have a1:=lows_getD hw k
  have a2:=lows_getD hv k
  have a3:=lows_getD hv (k + 1)
  generalize 4294967296 ^ k = P at *
  have e1 : (v.getD (k + 1) 0 * 4294967296 + v.getD k 0) = v.getD k 0 + 4294967296 * v.getD (k + 1) 0:=by omega
  have e2 : ((w.getD (k + 2) 0 * 4294967296 + w.getD (k + 1) 0) * 4294967296 + w.getD k 0) = w.getD k 0 + 4294967296 * (w.getD (k + 1) 0 + 4294967296 * w.getD (k + 2) 0):=by
    generalize w.getD (k + 2) 0 = p
    generalize w.getD (k + 1) 0 = q
    rw [Nat.add_comm,Nat.mul_comm (p * 4294967296 + q),Nat.add_comm (p * 4294967296),Nat.mul_comm p]
  refine ⟨?_, ?_, ?_, ?_,a1,a2,a3,hb,hP,hl⟩
  · rw [e1,Nat.mul_comm,h1];exact Nat.le_add_left _ _
  · rw [e1,Nat.add_mul,Nat.one_mul,Nat.mul_comm _ P,h1,Nat.add_comm];exact Nat.add_lt_add_left h3 _
  · rw [e2,Nat.mul_comm,h2];exact Nat.le_add_left _ _
  · rw [e2,Nat.add_mul,Nat.one_mul,Nat.mul_comm _ P,h2,Nat.add_comm];exact Nat.add_lt_add_left h4 _
section
variable {V W P v1 v2 U x : Nat} (G : Gue V W P v1 v2 U x)
include G
theorem Gue.inv0 : W < (U / v1 + 1) * V:=by
  have hv : 0 < v1:=by have:=G.big;omega
  have h1 : U + 1 ≤ (U / v1 + 1) * v1:=by
    have:=Nat.lt_mul_div_succ U hv
    rw [Nat.mul_comm] at this
    exact this
  have h2 : (U * 4294967296 + x + 1) ≤ (U + 1) * 4294967296:=by have:=G.lx;omega
  calc W < (U * 4294967296 + x + 1) * P:=G.whi
    _ ≤ (U + 1) * 4294967296 * P:=Nat.mul_le_mul_right _ h2
    _ ≤ (U / v1 + 1) * v1 * 4294967296 * P:=Nat.mul_le_mul_right _ (Nat.mul_le_mul_right _ h1)
    _ = (U / v1 + 1) * (v1 * 4294967296 * P):=by rw [Nat.mul_assoc,Nat.mul_assoc,Nat.mul_assoc]
    _ ≤ (U / v1 + 1) * V:=Nat.mul_le_mul_left _ (Nat.le_trans (Nat.mul_le_mul_right _ (Nat.le_add_right _ _)) G.lo)
theorem Gue.step {g r : Nat} (h1 : g * v1 + r = U) (h2 : 4294967296 ≤ g ∨ r * 4294967296 + x < g * v2) : W < g * V:=by
  rcases h2 with h2 | h2
  · exact Nat.lt_of_lt_of_le G.less (Nat.mul_le_mul_right _ h2)
  · exact guess_down h1 h2 G.lo G.whi
theorem Gue.top : U < v1 * 4294967296 + 4294967296:=by
  rcases Nat.lt_or_ge U (v1 * 4294967296 + 4294967296) with h | h
  · exact h
  exfalso
  have h1 : (v1 * 4294967296 + v2 + 1) * P * 4294967296 ≤ (U * 4294967296 + x) * P:=by
    rw [Nat.mul_right_comm]
    refine Nat.mul_le_mul_right _ ?_
    have:=G.l2
    omega
  have h2:=G.less
  have h3:=G.hi
  have h4:=G.wlo
  have h5 : 4294967296 * V < (v1 * 4294967296 + v2 + 1) * P * 4294967296:=by
    rw [Nat.mul_comm];exact Nat.mul_lt_mul_of_pos_right h3 (by omega)
  omega
theorem Gue.fin {g r : Nat} (h1 : g * v1 + r = U) (h2 : ¬ (r < 4294967296 ∧ (4294967296 ≤ g ∨ r * 4294967296 + x < g * v2))) : g < 4294967296 ∧ g * V < W + V:=by
  have ht:=G.top
  have hb:=G.big
  have hg : g < 4294967296:=by
    rcases Nat.lt_or_ge g 4294967296 with h | h
    · exact h
    exfalso
    have h3 : 4294967296 * v1 ≤ g * v1:=Nat.mul_le_mul_right _ h
    generalize g * v1 = a at *
    omega
  have h4 : g * v2 ≤ r * 4294967296 + x:=by
    rcases Nat.lt_or_ge r 4294967296 with h | h
    · omega
    · have : g * v2 ≤ 4294967295 * 4294967295:=Nat.mul_le_mul (by omega) (by have:=G.l2;omega)
      generalize g * v2 = b at *
      omega
  have hP : 4294967296 * P ≤ V:=by
    refine Nat.le_trans (Nat.mul_le_mul_right _ ?_) G.lo
    omega
  exact ⟨hg,guess_done h1 h4 hg G.hi hP G.wlo⟩
end
end Go.Proofs.YtakaojkfipnfcaaGreatDoor.Lv
