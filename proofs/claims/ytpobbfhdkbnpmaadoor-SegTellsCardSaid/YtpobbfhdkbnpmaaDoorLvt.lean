/- The abstract machine: rules for reckoning. -/
import Derived.Test.YtpobbfhdkbnpmaaDoorLvs
set_option linter.unusedVariables false
set_option linter.unusedSimpArgs false
namespace Go.Proofs.YtpobbfhdkbnpmaaDoor.Lv
open Go Go.RowKit

section
variable {E : Ctx}
/-- The same under names that stand until they are wanted. -/
def AWu (E : Ctx) (c : Code) (Q : Exit → St → Prop) (s : St) : Prop := AW E c Q s
def AXu (E : Ctx) (o : Oper) (K : St → Prop) (s : St) : Prop := AX E o K s
def Ku (K : St → Prop) (s : St) : Prop := K s
def EFu (E : Ctx) (s : St) (op : Op) (K : D → St → Prop) : Prop := ef E s op K
theorem AWu_eq (c : Code) (Q : Exit → St → Prop) (s : St) : AWu E c Q s = AW E c Q s := propext Iff.rfl
theorem AXu_eq (o : Oper) (K : St → Prop) (s : St) : AXu E o K s = AX E o K s := propext Iff.rfl
theorem Ku_eq (K : St → Prop) (s : St) : Ku K s = K s := propext Iff.rfl
theorem AX_eq (o : Oper) (K : St → Prop) (s : St) : AX E o K s = match o.op with
  | .call { callee := .value f, args := ⟨xs⟩, .. } => match ev E s f with
    | .fn g cap => CallX E g (xs.map (ev E s) ++ cap) K s o.dst
    | _ => False
  | op => ork (pv E s op) (KP K s o.dst) (EFu E s op (KT K o.dst)) := propext Iff.rfl
theorem AW_skip (Q : Exit → St → Prop) (s : St) : AW E .skip Q s = Q .normal s := propext Iff.rfl
theorem AW_seq (a b : Code) (Q : Exit → St → Prop) (s : St) : AW E (.seq a b) Q s = AW E a (thn (AW E b Q) Q) s := propext Iff.rfl
theorem AW_region (id : Nat) (ops : Array Oper) (Q : Exit → St → Prop) (s : St) : AW E (.region id ops false) Q s = AR E ops ops.toList (Q .normal) s := by
  simp [AW, AReg3]
/-- May a region's operations change places? -/
structure RegOk (E : Ctx) (ops : Array Oper) : Prop where
  h : regOk E ops = true
structure RegCl (E : Ctx) (ops : Array Oper) : Prop where
  h : (!regOk E ops && regOk (E.lim noG) ops) = true
structure RegNo (E : Ctx) (ops : Array Oper) : Prop where
  h : (regOk E ops || regOk (E.lim noG) ops) = false
theorem AW_drawn (id : Nat) (ops : Array Oper) (Q : Exit → St → Prop) (s : St) (h : RegOk E ops) : AW E (.region id ops true) Q s = AR E ops ops.toList (Q .normal) s := by
  simp [AW, AReg3, h.h]
theorem AW_drawnC (id : Nat) (ops : Array Oper) (Q : Exit → St → Prop) (s : St) (h : RegCl E ops) : AW E (.region id ops true) Q s = AR (E.lim noG) ops ops.toList (Q .normal) s := by
  have := h.h
  simp only [Bool.and_eq_true, Bool.not_eq_true'] at this
  simp [AW, AReg3, this.1, this.2]
theorem AW_drawnN (id : Nat) (ops : Array Oper) (Q : Exit → St → Prop) (s : St) (h : RegNo E ops) : AW E (.region id ops true) Q s = AReg E ops true (Q .normal) s := by
  have := h.h
  simp only [Bool.or_eq_false_iff] at this
  simp [AW, AReg3, this.1, this.2]
theorem AW_cond (c : Operand) (a b : Code) (Q : Exit → St → Prop) (s : St) : AW E (.cond c a b) Q s = cnd (ev E s c) (AWu E a Q s) (AWu E b Q s) := propext Iff.rfl
theorem AW_block (id : Nat) (b : Code) (Q : Exit → St → Prop) (s : St) : AW E (.block id b) Q s = AW E b (blk id Q) s := propext Iff.rfl
theorem AW_loop (b : Code) (Q : Exit → St → Prop) (s : St) : AW E (.loop b) Q s = AL (AW E b) Q s := propext Iff.rfl
theorem AW_exit (id : Nat) (Q : Exit → St → Prop) (s : St) : AW E (.exit id) Q s = Q (.exit id) s := propext Iff.rfl
theorem AW_ret (Q : Exit → St → Prop) (s : St) : AW E .ret Q s = Q .ret s := propext Iff.rfl
theorem thn_normal (K : St → Prop) (Q : Exit → St → Prop) (s : St) : thn K Q .normal s = K s := propext Iff.rfl
theorem thn_exit (K : St → Prop) (Q : Exit → St → Prop) (i : Nat) (s : St) : thn K Q (.exit i) s = Q (.exit i) s := propext Iff.rfl
theorem thn_ret (K : St → Prop) (Q : Exit → St → Prop) (s : St) : thn K Q .ret s = Q .ret s := propext Iff.rfl
theorem blk_normal (id : Nat) (Q : Exit → St → Prop) (s : St) : blk id Q .normal s = Q .normal s := propext Iff.rfl
theorem blk_exit (id i : Nat) (Q : Exit → St → Prop) (s : St) : blk id Q (.exit i) s = if i = id then Q .normal s else Q (.exit i) s := propext Iff.rfl
theorem blk_ret (id : Nat) (Q : Exit → St → Prop) (s : St) : blk id Q .ret s = Q .ret s := propext Iff.rfl
theorem AR_nil (all : Array Oper) (K : St → Prop) (s : St) : AR E all [] K s = K s := propext Iff.rfl
theorem AR_cons (all : Array Oper) (o : Oper) (os : List Oper) (K : St → Prop) (s : St) : AR E all (o :: os) K s = AT E all o (AR E all os K) s := propext Iff.rfl
theorem AT_eq (all : Array Oper) (o : Oper) (K : St → Prop) (s : St) : AT E all o K s = match o.guard with
  | none => AX E o K s
  | some (g, want) => match (all[g]?).bind (·.dst) with
    | some t => gd (s.e t) want (AXu E o K s) (Ku K (s.put o.dst (.tup [])))
    | none => False := propext Iff.rfl
theorem KP_eq (K : St → Prop) (s : St) (dst : Option Nat) (d : D) : KP K s dst d = K (s.put dst d) := propext Iff.rfl
theorem KT_eq (K : St → Prop) (dst : Option Nat) (d : D) (s : St) : KT K dst d s = K (s.put dst d) := propext Iff.rfl
theorem put_some (e : Nat → D) (h : Hp) (nx t : Nat) (d : D) : St.put ⟨e, h, nx⟩ (some t) d = ⟨upd e t d, h, nx⟩ := Eq.trans rfl rfl
theorem put_none (s : St) (d : D) : St.put s none d = s := Eq.trans rfl rfl
theorem upd_eq (e : Nat → D) (t : Nat) (d : D) (t' : Nat) : upd e t d t' = if t' = t then d else e t' := Eq.trans rfl rfl
theorem ev_tmp (e : Nat → D) (h : Hp) (nx t : Nat) : ev E ⟨e, h, nx⟩ (.tmp t) = e t := Eq.trans rfl rfl
theorem ev_const (s : St) (v : Value) : ev E s (.const v) = ofVal v := Eq.trans rfl rfl
theorem ev_global (s : St) (g : Nat) : ev E s (.global g) = E.gv g := Eq.trans rfl rfl
theorem ev_func (s : St) (f : Nat) : ev E s (.func f) = .fn f [] := Eq.trans rfl rfl
theorem init_eq (args : List D) (h : Hp) : St.init args h = ⟨fun t => args.getD t .unk, h, mx h⟩ := Eq.trans rfl rfl
theorem retQ_normal (rl : List ResultVar) (d : D) (h' : Hp) (s : St) : retQ E rl d h' .normal s = (ork ((resD E s rl).map fun ds => imp (kp h') s.h (one' ds)) (fun d' => LeV d' d) False ∧ HLe (kp h') s.h h') := propext Iff.rfl
theorem retQ_ret (rl : List ResultVar) (d : D) (h' : Hp) (s : St) : retQ E rl d h' .ret s = (ork ((resD E s rl).map fun ds => imp (kp h') s.h (one' ds)) (fun d' => LeV d' d) False ∧ HLe (kp h') s.h h') := propext Iff.rfl
def nof : Nat → Option Nat := fun _ => none
theorem kp_nil : kp [] = nof := Eq.trans rfl rfl
theorem pos_nil : pos [] = nof := Eq.trans rfl rfl
theorem nof_eq (b : Nat) : nof b = none := Eq.trans rfl rfl
theorem kp_eq (h : Hp) (b : Nat) : kp h b = if (lookB h b).isSome then some b else none := Eq.trans rfl rfl
theorem HLe_nil (ρ : Nat → Option Nat) (H : Hp) : HLe ρ H [] = True := propext Iff.rfl
mutual
theorem cl_ex (r : Nat → Nat) : ∀ (d : D), cl d = true → exD r d = d
  | .int .., _ | .bool .., _ | .str .., _ | .nilp, _ | .nils, _ | .nilm, _ | .nilf, _ | .gl .., _ | .unk, _ | .ro .., _ | .ra .., _ => rfl
  | .sl .., h | .ad .., h | .el .., h | .vs .., h => by simp [cl] at h
  | .agg cs, h => by simp only [exD, cls_ex r cs (by simpa only [cl] using h)]
  | .tup cs, h => by simp only [exD, cls_ex r cs (by simpa only [cl] using h)]
  | .fn f cs, h => by simp only [exD, cls_ex r cs (by simpa only [cl] using h)]
theorem cls_ex (r : Nat → Nat) : ∀ (ds : List D), cls ds = true → exDs r ds = ds
  | [], _ => rfl
  | d :: ds, h => by
    simp only [cls, Bool.and_eq_true] at h
    simp only [exDs, cl_ex r d h.1, cls_ex r ds h.2]
end
mutual
theorem cl_imp (ρ : Nat → Option Nat) (H : Hp) : ∀ (d : D), cl d = true → imp ρ H d = d
  | .int .., _ | .bool .., _ | .str .., _ | .nilp, _ | .nils, _ | .nilm, _ | .nilf, _ | .gl .., _ | .unk, _ | .ro .., _ | .ra .., _ => rfl
  | .sl .., h | .ad .., h | .el .., h | .vs .., h => by simp [cl] at h
  | .agg cs, h => by simp only [imp, cls_imp ρ H cs (by simpa only [cl] using h)]
  | .tup cs, h => by simp only [imp, cls_imp ρ H cs (by simpa only [cl] using h)]
  | .fn f cs, h => by simp only [imp, cls_imp ρ H cs (by simpa only [cl] using h)]
theorem cls_imp (ρ : Nat → Option Nat) (H : Hp) : ∀ (ds : List D), cls ds = true → imps ρ H ds = ds
  | [], _ => rfl
  | d :: ds, h => by
    simp only [cls, Bool.and_eq_true] at h
    simp only [imps, cl_imp ρ H d h.1, cls_imp ρ H ds h.2]
end
mutual
theorem cl_refs (ρ : Nat → Option Nat) : ∀ (d : D), cl d = true → refs ρ d = []
  | .int .., _ | .bool .., _ | .str .., _ | .nilp, _ | .nils, _ | .nilm, _ | .nilf, _ | .gl .., _ | .unk, _ | .ro .., _ | .ra .., _ => rfl
  | .sl .., h | .ad .., h | .el .., h | .vs .., h => by simp [cl] at h
  | .agg cs, h => by simp only [refs, cls_refs ρ cs (by simpa only [cl] using h)]
  | .tup cs, h => by simp only [refs, cls_refs ρ cs (by simpa only [cl] using h)]
  | .fn f cs, h => by simp only [refs, cls_refs ρ cs (by simpa only [cl] using h)]
theorem cls_refs (ρ : Nat → Option Nat) : ∀ (ds : List D), cls ds = true → refss ρ ds = []
  | [], _ => rfl
  | d :: ds, h => by
    simp only [cls, Bool.and_eq_true] at h
    simp only [refss, cl_refs ρ d h.1, cls_refs ρ ds h.2, List.append_nil]
end
/-- A call that is given no blocks. -/
theorem callC {g : FuncId} {ds args : List D} {K : St → Prop} {s : St} {dst : Option Nat} {d : D} (hC : C E g args d) (hl : LesV (imps nof s.h ds) args) (hcl : cl d = true) (hK : K ((if flat d = true then s else s.frz (refss nof ds)).put dst d)) : CallX E g ds K s dst := by
  refine ⟨[], d, [], .inr rfl, rfl, CG.args hC hl, ?_⟩
  rw [cl_ex _ d hcl]
  by_cases hf : flat d = true
  · rw [if_pos hf] at hK
    have : aft s [] [] [] = s := by simp [aft, mrg, frz_nil, mx]
    simp only [hf, List.isEmpty_nil, Bool.and_true, if_true, this]
    exact hK
  · rw [if_neg hf] at hK
    have e : (flat d && List.isEmpty ([] : Hp)) = false := by simp [hf]
    simp only [e, Bool.false_eq_true, if_false]
    have : aft s [] (fsOf s [] ds) [] = s.frz (refss nof ds) := by simp [aft, mrg, mx, fsOf, St.frz, pos_nil]
    rw [this]
    exact hK
/-- A call that is given these blocks. -/
theorem callG (bs : List Nat) {g : FuncId} {ds args : List D} {K : St → Prop} {s : St} {dst : Option Nat} {d : D} {h h' : Hp} (hC : CG E g args h d h') (hgive : E.give g = true) (hg : givOk s.h bs = true) (hl : LesV (imps (pos bs) s.h ds) args) (hh : impH (pos bs) s.h bs 0 = h)
    (hK : K ((aft s bs (if flat d && h'.isEmpty then [] else fsOf s bs ds) h').put dst (exD (ex bs s.nx) d))) : CallX E g ds K s dst :=
  ⟨bs, d, h', .inl hgive, hg, by rw [hh]; exact CG.args hC hl, hK⟩

theorem lim_tt (gs : Nat → Bool) (t : Nat) : (E.lim gs).tt t = E.tt t := Eq.trans rfl rfl
theorem lim_gv (gs : Nat → Bool) (t : Nat) : (E.lim gs).gv t = E.gv t := Eq.trans rfl rfl
/-- In a region whose operations may change places: a call that is given no blocks. -/
theorem callCl {gs : Nat → Bool} {g : FuncId} {ds args : List D} {K : St → Prop} {s : St} {dst : Option Nat} {d : D} (hC : C E g args d) (hl : LesV (imps nof s.h ds) args) (hcl : cl d = true) (hK : K ((if flat d = true then s else s.frz (refss nof ds)).put dst d)) : CallX (E.lim gs) g ds K s dst :=
  callC (E := E.lim gs) hC hl hcl hK
theorem callGl (bs : List Nat) {gs : Nat → Bool} {g : FuncId} {ds args : List D} {K : St → Prop} {s : St} {dst : Option Nat} {d : D} {h h' : Hp} (hC : CG E g args h d h') (hgive : gs g = true) (hg : givOk s.h bs = true) (hl : LesV (imps (pos bs) s.h ds) args) (hh : impH (pos bs) s.h bs 0 = h)
    (hK : K ((aft s bs (if flat d && h'.isEmpty then [] else fsOf s bs ds) h').put dst (exD (ex bs s.nx) d))) : CallX (E.lim gs) g ds K s dst :=
  callG (E := E.lim gs) bs hC hgive hg hl hh hK

theorem ork_some (d : D) (K : D → Prop) (F : Prop) : ork (some d) K F = K d := propext Iff.rfl
theorem ork_none (K : D → Prop) (F : Prop) : ork none K F = F := propext Iff.rfl
theorem ork_none_ef (K : D → Prop) (s : St) (op : Op) (K' : D → St → Prop) : ork none K (EFu E s op K') = ef E s op K' := propext Iff.rfl
theorem ork_grd (c : Prop) [Decidable c] (d : D) (K : D → Prop) (F : Prop) (hc : c) : ork (grd c d) K F = K d := by simp [grd, hc, ork]
theorem grd_pos (c : Prop) [Decidable c] (d : D) (hc : c) : grd c d = some d := by simp [grd, hc]
theorem grd_true [Decidable True] (d : D) : grd True d = some d := by simp [grd]
theorem bits_u64 : IntKind.u64.bits = 64 := Eq.trans rfl rfl
theorem bits_i64 : IntKind.i64.bits = 64 := Eq.trans rfl rfl
theorem bits_u32 : IntKind.u32.bits = 32 := Eq.trans rfl rfl
theorem bits_i32 : IntKind.i32.bits = 32 := Eq.trans rfl rfl
theorem bits_u8 : IntKind.u8.bits = 8 := Eq.trans rfl rfl
theorem min_pos (a b : Nat) (h : a ≤ b) : min a b = a := Nat.min_eq_left h
theorem fdiv_lit (a b : Int) (h : 0 ≤ b) : a.fdiv b = a / b := Int.fdiv_eq_ediv_of_nonneg a h
theorem shr_lit (n : Nat) : ((2 : Int) ^ n) = ((2 ^ n : Nat) : Int) := by simp
@[congr] theorem ork_congr {x y : Option D} (h : x = y) (K : D → Prop) (F : Prop) : ork x K F = ork y K F := by rw [h]
theorem gd_tt (o : Oper) (K : St → Prop) (s : St) (B : Prop) : gd (.bool true) true (AXu E o K s) B = AX E o K s := by simp [gd, AXu]
theorem gd_ff (o : Oper) (K : St → Prop) (s : St) (B : Prop) : gd (.bool false) false (AXu E o K s) B = AX E o K s := by simp [gd, AXu]
theorem gd_tf (A : Prop) (K : St → Prop) (s : St) : gd (.bool true) false A (Ku K s) = K s := by simp [gd, Ku]
theorem gd_ft (A : Prop) (K : St → Prop) (s : St) : gd (.bool false) true A (Ku K s) = K s := by simp [gd, Ku]
theorem gd_tup (ds : List D) (want : Bool) (A : Prop) (K : St → Prop) (s : St) : gd (.tup ds) want A (Ku K s) = K s := by simp [gd, Ku]
theorem gd_true (b : Bool) (o : Oper) (K K' : St → Prop) (s s' : St) : gd (.bool b) true (AXu E o K s) (Ku K' s') ↔ (b = true → AX E o K s) ∧ (b = false → K' s') := by cases b <;> simp [gd, AXu, Ku]
theorem gd_false (b : Bool) (o : Oper) (K K' : St → Prop) (s s' : St) : gd (.bool b) false (AXu E o K s) (Ku K' s') ↔ (b = false → AX E o K s) ∧ (b = true → K' s') := by cases b <;> simp [gd, AXu, Ku]
@[congr] theorem gd_congr {x y : D} (h : x = y) (w : Bool) (A B : Prop) : gd x w A B = gd y w A B := by rw [h]
theorem cnd_t (c : Code) (Q : Exit → St → Prop) (s : St) (B : Prop) : cnd (.bool true) (AWu E c Q s) B = AW E c Q s := by simp [cnd, AWu]
theorem cnd_f (c : Code) (Q : Exit → St → Prop) (s : St) (A : Prop) : cnd (.bool false) A (AWu E c Q s) = AW E c Q s := by simp [cnd, AWu]
theorem cnd_b (b : Bool) (c c' : Code) (Q Q' : Exit → St → Prop) (s s' : St) : cnd (.bool b) (AWu E c Q s) (AWu E c' Q' s') ↔ (b = true → AW E c Q s) ∧ (b = false → AW E c' Q' s') := Iff.rfl
@[congr] theorem cnd_congr {x y : D} (h : x = y) (A B : Prop) : cnd x A B = cnd y A B := by rw [h]
@[congr] theorem AL_congr {F : (Exit → St → Prop) → St → Prop} {Q : Exit → St → Prop} {s s' : St} (h : s = s') : AL F Q s = AL F Q s' := by rw [h]
@[congr] theorem CallX_congr {g : FuncId} {ds ds' : List D} {K : St → Prop} {s s' : St} {dst : Option Nat} (h : ds = ds') (h'' : s = s') : CallX E g ds K s dst = CallX E g ds' K s' dst := by rw [h, h'']

@[congr] theorem thn_congr (K : St → Prop) (Q : Exit → St → Prop) {e e' : Exit} {s s' : St} (he : e = e') (h : s = s') : thn K Q e s = thn K Q e' s' := by rw [he, h]
@[congr] theorem blk_congr (id : Nat) (Q : Exit → St → Prop) {e e' : Exit} {s s' : St} (he : e = e') (h : s = s') : blk id Q e s = blk id Q e' s' := by rw [he, h]
@[congr] theorem AR_congr (all : Array Oper) (os : List Oper) (K : St → Prop) {s s' : St} (h : s = s') : AR E all os K s = AR E all os K s' := by rw [h]
@[congr] theorem AW_congr (c : Code) (Q : Exit → St → Prop) {s s' : St} (h : s = s') : AW E c Q s = AW E c Q s' := by rw [h]
@[congr] theorem AReg_congr (all : Array Oper) (b : Bool) (K : St → Prop) {s s' : St} (h : s = s') : AReg E all b K s = AReg E all b K s' := by rw [h]
/-- The next round's state. -/
def Nxt {α : Type} (P : α → Prop) (μ : α → Nat) (L : α → List (Nat × D)) (H : α → Hp) (x : α) (s : St) : Prop :=
  ∃ x', P x' ∧ μ x' < μ x ∧ EnvLe (kp (H x')) s.h s.e (L x') ∧ HLe (kp (H x')) s.h (H x')
@[congr] theorem Nxt_congr {α : Type} (P : α → Prop) (μ : α → Nat) (L : α → List (Nat × D)) (H : α → Hp) (x : α) {s s' : St} (h : s = s') : Nxt P μ L H x s = Nxt P μ L H x s' := by rw [h]
/-- A loop: one round. -/
theorem AL.step {F : (Exit → St → Prop) → St → Prop} {Q : Exit → St → Prop} {s : St} (h : F (thn (AL F Q) Q) s) : AL F Q s := .unroll _ s h fun _ h => h
/-- A loop: what its rounds keep. -/
theorem AL.of {α : Type} (P : α → Prop) (μ : α → Nat) (L : α → List (Nat × D)) (H : α → Hp) (x : α) {F : (Exit → St → Prop) → St → Prop} {Q : Exit → St → Prop} {e : Nat → D} {h : Hp} {nx : Nat} (hx : P x) (hL : EnvLe (kp (H x)) h e (L x)) (hH : HLe (kp (H x)) h (H x))
    (hm : ∀ x, P x → mx (H x) ≤ nx) (round : ∀ x, P x → F (thn (Nxt P μ L H x) Q) ⟨look .unk (L x), H x, nx⟩) : AL F Q ⟨e, h, nx⟩ := by
  refine AL.inv (fun n s => ∃ x, P x ∧ μ x = n ∧ s = ⟨look .unk (L x), H x, nx⟩) (μ x) _ _ (Wk.gen (L x) (H x) nx (Nat.le_refl _) (hm x hx) hL hH) ⟨x, hx, rfl, rfl⟩ ?_
  rintro n s ⟨x, hx, rfl, rfl⟩
  refine ⟨Nxt P μ L H x, ?_, round x hx⟩
  rintro ⟨e', h', nx'⟩ ⟨x', h1, h2, h3, h4⟩
  exact ⟨μ x', h2, _, Wk.gen (L x') (H x') nx (Nat.le_refl _) (hm x' h1) h3 h4, x', h1, rfl, rfl⟩

theorem AW_rf (g : Operand) (p q : Nat) (a b : Code) (Q : Exit → St → Prop) (s : St) : AW E (.rangeFunc g ⟨[p, q]⟩ a b) Q s = AB E g (AW E a) (AW E b) Q p q s := propext Iff.rfl
@[congr] theorem AB_congr (g : Operand) (A W : (Exit → St → Prop) → St → Prop) (Q : Exit → St → Prop) (p q : Nat) {s s' : St} (h : s = s') : AB E g A W Q p q s = AB E g A W Q p q s' := by rw [h]
@[congr] theorem rnd_congr (n0 : Nat) (I : Nat → St → Prop) (Q : Exit → St → Prop) (t : St) (k : Nat) {e e' : Exit} {s s' : St} (he : e = e') (hs : s = s') : rnd n0 I Q t k e s = rnd n0 I Q t k e' s' := by rw [he, hs]
theorem rnd_normal (n0 : Nat) (I : Nat → St → Prop) (Q : Exit → St → Prop) (t : St) (k : Nat) (s : St) : rnd n0 I Q t k .normal s = BGo n0 I k t s := propext Iff.rfl
theorem rnd_ret (n0 : Nat) (I : Nat → St → Prop) (Q : Exit → St → Prop) (t : St) (k : Nat) (s : St) : rnd n0 I Q t k .ret s = (Onw t.h t.nx s.h s.nx ∧ Q .ret ⟨t.e, s.h, s.nx⟩) := propext Iff.rfl
theorem rnd_exit (n0 : Nat) (I : Nat → St → Prop) (Q : Exit → St → Prop) (t : St) (k i : Nat) (s : St) : rnd n0 I Q t k (.exit i) s = (Onw t.h t.nx s.h s.nx ∧ Q (.exit i) ⟨t.e, s.h, s.nx⟩) := propext Iff.rfl
@[congr] theorem bmid_congr (n0 : Nat) (I : Nat → St → Prop) (Q : Exit → St → Prop) (W : (Exit → St → Prop) → St → Prop) (t : St) (k : Nat) {s s' : St} (hs : s = s') : bmid n0 I Q W t k s = bmid n0 I Q W t k s' := by rw [hs]
theorem bmid_eq (n0 : Nat) (I : Nat → St → Prop) (Q : Exit → St → Prop) (W : (Exit → St → Prop) → St → Prop) (t : St) (k : Nat) (s1 : St) : bmid n0 I Q W t k s1 = (noFz s1.h = true ∧ Onw t.h t.nx s1.h s1.nx ∧ W (rnd n0 I Q ⟨t.e, s1.h, s1.nx⟩ k) s1) := propext Iff.rfl
@[congr] theorem BGo_congr (n0 : Nat) (I : Nat → St → Prop) (k : Nat) {t t' s s' : St} (ht : t = t') (hs : s = s') : BGo n0 I k t s = BGo n0 I k t' s' := by rw [ht, hs]
def BI {α : Type} (P : α → Prop) (μ : α → Nat) (L : α → List (Nat × D)) (H : α → Hp) (nx : Nat) (k : Nat) (s : St) : Prop := ∃ x', P x' ∧ μ x' = k ∧ s = ⟨look .unk (L x'), H x', nx⟩
/-- On to the next round. -/
theorem BGo.of {α : Type} {P : α → Prop} {μ : α → Nat} {L : α → List (Nat × D)} {H : α → Hp} {nx : Nat} (x : α) {k : Nat} {te : Nat → D} {th : Hp} {tn : Nat} {e : Nat → D} {h : Hp} {n : Nat} (ho : Onw th tn h n) (hP : P x) (hμ : μ x = k) (hm : mx (H x) ≤ nx) (hL : EnvLe (kp (H x)) h te (L x)) (hH : HLe (kp (H x)) h (H x)) :
    BGo nx (BI P μ L H nx) k ⟨te, th, tn⟩ ⟨e, h, n⟩ := ⟨ho, _, Wk.gen (L x) (H x) nx (Nat.le_refl _) hm hL hH, x, hP, hμ, rfl⟩
theorem AB.of {α : Type} (f bx : Nat) (P : α → Prop) (μ : α → Nat) (L : α → List (Nat × D)) (H : α → Hp) (x : α) {g : Operand} {A W : (Exit → St → Prop) → St → Prop} {Q : Exit → St → Prop} {p q : Nat} {e : Nat → D} {h : Hp} {nx : Nat}
    (hBW : BWC E.P f) (hx : P x) (hL : EnvLe (kp (H x)) h e (L x)) (hH : HLe (kp (H x)) h (H x)) (hg : ev E ⟨look .unk (L x), H x, nx⟩ g = .fn f [.ad bx 0])
    {y : D} (hb : lookB (H x) bx = some (.var false 1 y)) (hs : slen (H x) y = some (μ x)) (hn : μ x ≤ 9223372036854775807)
    (hfr : ∀ x', P x' → Frs (H x) nx (H x') nx ∧ noFz (H x') = true ∧ mx (H x') ≤ nx)
    (done : ∀ x', P x' → μ x' = 0 → Q .normal ⟨look .unk (L x'), H x', nx⟩)
    (round : ∀ x' k, P x' → k < μ x → μ x' = k + 1 → ∃ y d, lookB (H x') bx = some (.var false 1 y) ∧ elt (H x') y k = some d ∧
      A (thn (bmid nx (BI P μ L H nx) Q W ⟨look .unk (L x'), H x', nx⟩ k) noQ) ⟨upd (upd (look .unk (L x')) p (.int .i64 k)) q d, H x', nx⟩) : AB E g A W Q p q ⟨e, h, nx⟩ := by
  refine ⟨_, Wk.gen (L x) (H x) nx (Nat.le_refl _) (hfr x hx).2.2 hL hH, (hfr x hx).2.1, f, bx, hg, hBW, y, μ x, hb, hs, hn, BI P μ L H nx, ⟨x, hx, rfl, rfl⟩, ?_, ?_⟩
  · rintro t ⟨x', h1, h2, rfl⟩
    exact done x' h1 h2
  · rintro k t ⟨x', h1, h2, rfl⟩
    exact ⟨(hfr x' h1).1, (hfr x' h1).2.1, fun k' hk' e => round x' k' h1 hk' (h2.trans e)⟩

def KV (K : D → St → Prop) (s : St) (b : Nat) (ag : Bool) (sz : Nat) (d' : D) : Prop := K (.tup []) ⟨s.e, up s.h b (.var ag sz d'), s.nx⟩
def KR (K : D → St → Prop) (s : St) (b ver : Nat) (ag : Bool) (sz n : Nat) (f : Nat → D) (i : Nat) (d' : D) : Prop := K (.tup []) ⟨s.e, up s.h b (.row false ver ag sz n fun j => if j = i then d' else f j), s.nx⟩
def KE (K : D → St → Prop) (s : St) (b : Bool) : Prop := K (.bool b) s
theorem KV_eq (K : D → St → Prop) (s : St) (b : Nat) (ag : Bool) (sz : Nat) (d' : D) : KV K s b ag sz d' = K (.tup []) ⟨s.e, up s.h b (.var ag sz d'), s.nx⟩ := propext Iff.rfl
theorem KR_eq (K : D → St → Prop) (s : St) (b ver : Nat) (ag : Bool) (sz n : Nat) (f : Nat → D) (i : Nat) (d' : D) : KR K s b ver ag sz n f i d' = K (.tup []) ⟨s.e, up s.h b (.row false ver ag sz n fun j => if j = i then d' else f j), s.nx⟩ := propext Iff.rfl
theorem KE_eq (K : D → St → Prop) (s : St) (b : Bool) : KE K s b = K (.bool b) s := propext Iff.rfl
theorem ex_ork (x : Option D) (K : D → Prop) : (∃ d, x = some d ∧ K d) = ork x K False := propext (by cases x <;> simp [ork])
theorem ef_box (s : St) (t : Nat) (x : Operand) (K : D → St → Prop) : ef E s (.box t x) K = ((E.tt t).k ≠ .bad ∧ chk s.h (E.tt t).ag (E.tt t).sz (ev E s x) = true ∧ K (.ad s.nx 0) ⟨s.e, (s.nx, .var (E.tt t).ag (E.tt t).sz (ev E s x)) :: s.h, s.nx + 1⟩) := propext Iff.rfl
theorem ef_alloc (s : St) (t : Nat) (K : D → St → Prop) : ef E s (.alloc t) K = ((E.tt t).hz = true ∧ chk s.h (E.tt t).ag (E.tt t).sz (E.tt t).zero = true ∧ K (.ad s.nx 0) ⟨s.e, (s.nx, .var (E.tt t).ag (E.tt t).sz (E.tt t).zero) :: s.h, s.nx + 1⟩) := propext Iff.rfl
theorem ef_store (s : St) (t : Nat) (a x : Operand) (K : D → St → Prop) : ef E s (.store t a x) K = ((E.tt t).k ≠ .bad ∧ chk s.h (E.tt t).ag (E.tt t).sz (ev E s x) = true ∧ match ev E s a with
    | .ad b off => match lookB s.h b with
      | some (.var ag sz d) => ork (wr ag sz d off (E.tt t).ag (E.tt t).sz (ev E s x)) (KV K s b ag sz) False
      | _ => False
    | .el b ver i fo => match lookB s.h b with
      | some (.row false ver' ag sz n f) => ver = ver' ∧ cl (ev E s x) = true ∧ ork (wr ag sz (f i) fo (E.tt t).ag (E.tt t).sz (ev E s x)) (KR K s b ver ag sz n f i) False
      | _ => False
    | _ => False) := by
  simp only [ef]
  congr 2
  cases ev E s a <;> try rfl
  case ad b off =>
    simp only
    cases lookB s.h b with
    | none => rfl
    | some y => cases y <;> first | rfl | (simp only [← ex_ork]; rfl)
  case el b ver i fo =>
    simp only
    cases lookB s.h b with
    | none => rfl
    | some y =>
      cases y with
      | var => rfl
      | row fz ver' ag sz n f => cases fz <;> first | rfl | (simp only [← ex_ork]; rfl)
theorem ef_make (s : St) (t : Nat) (l c : Operand) (K : D → St → Prop) : ef E s (.makeSlice t l c) K = (match (E.tt t).k, ev E s l, ev E s c with
    | .slc e, .int _ n, .int _ n' => (E.tt e).hz = true ∧ (E.tt e).k ≠ .bad ∧ chk [] (E.tt e).ag (E.tt e).sz (E.tt e).zero = true ∧ (E.tt e).sz ≠ 0 ∧ n = n' ∧ 0 ≤ n ∧ n ≤ 9223372036854775807 ∧ n * (E.tt e).bytes ≤ 281474976710656 ∧
        K (.sl s.nx 0 0 n.toNat) ⟨s.e, (s.nx, .row false 0 (E.tt e).ag (E.tt e).sz n.toNat fun _ => (E.tt e).zero) :: s.h, s.nx + 1⟩
    | _, _, _ => False) := propext Iff.rfl
theorem ef_bslice (s : St) (t n : Nat) (ps : List (Nat × Operand)) (K : D → St → Prop) : ef E s (.buildSlice t n ⟨ps⟩) K = (match (E.tt t).k with
    | .slc e => (E.tt e).k ≠ .bad ∧ (E.tt e).hz = true ∧ chk [] (E.tt e).ag (E.tt e).sz (E.tt e).zero = true ∧ (E.tt e).sz ≠ 0 ∧ n * (E.tt e).sz ≤ 16777216 ∧ ps.map (·.1) = List.range n ∧ (ps.all fun p => chk s.h (E.tt e).ag (E.tt e).sz (ev E s p.2) && cl (ev E s p.2)) = true ∧
        K (.sl s.nx 0 0 n) ⟨s.e, (s.nx, .row false 0 (E.tt e).ag (E.tt e).sz n fun i => (ps.map fun p => ev E s p.2).getD i .unk) :: s.h, s.nx + 1⟩
    | _ => False) := propext Iff.rfl
theorem ef_append (s : St) (x y : Operand) (t u : Nat) (K : D → St → Prop) : ef E s (.call { callee := .builtin .append, args := ⟨[x, y]⟩, argTypes := ⟨[t, u]⟩ }) K = (match (E.tt t).k, (E.tt u).k, srcOf s.h (ev E s y) with
    | .slc e, uk, some (m, g, k) => (uk = .slc e ∨ uk = .string) ∧ (E.tt e).k ≠ .bad ∧ (E.tt e).hz = true ∧ chk [] (E.tt e).ag (E.tt e).sz (E.tt e).zero = true ∧ (E.tt e).sz ≠ 0 ∧ (k = none ∨ k = some ((E.tt e).ag, (E.tt e).sz)) ∧ match ev E s x with
      | .nils => m ≤ 9223372036854775807 ∧ m * (E.tt e).bytes ≤ 140737488355328 ∧ K (.sl s.nx 0 0 m) ⟨s.e, (s.nx, .row false 0 (E.tt e).ag (E.tt e).sz m g) :: s.h, s.nx + 1⟩
      | .sl b ver 0 n => match lookB s.h b with
        | some (.row false ver' ag sz _ f) => ver = ver' ∧ ag = (E.tt e).ag ∧ sz = (E.tt e).sz ∧ n + m ≤ 9223372036854775807 ∧ (n + m) * (E.tt e).bytes ≤ 140737488355328 ∧
            K (.sl b (ver + 1) 0 (n + m)) ⟨s.e, up s.h b (.row false (ver + 1) ag sz (n + m) fun j => if j < n then f j else g (j - n)), s.nx⟩
        | _ => False
      | _ => False
    | _, _, _ => False) := propext Iff.rfl
theorem ef_conv (s : St) (src t : Nat) (x : Operand) (K : D → St → Prop) : ef E s (.convert src t x) K = (match (E.tt src).k, (E.tt t).k, ev E s x with
    | .string, .slc e, .str l => (E.tt e).k = .int .u8 ∧ l.length ≤ 140737488355328 ∧ K (.sl s.nx 0 0 l.length) ⟨s.e, (s.nx, .row false 0 false 1 l.length fun i => .int .u8 ((l.getD i 0).toNat : Int)) :: s.h, s.nx + 1⟩
    | _, _, _ => False) := propext Iff.rfl
theorem ef_eql (s : St) (t yt : Nat) (x y : Operand) (K : D → St → Prop) : ef E s (.binOp .eql t x y yt) K = (match (E.tt t).k, ev E s x, ev E s y with
    | .slc _, .nils, .nils => K (.bool true) s
    | .slc _, .ro _ _ n _, .nils => ∀ b : Bool, (b = true → n = 0) → KE K s b
    | _, _, _ => False) := propext Iff.rfl

theorem asAgg_agg (cs : List D) : asAgg (.agg cs) = some cs := Eq.trans rfl rfl
section
variable (h : Hp)
theorem one_int (k : IntKind) (n : Int) : one h (.int k n) = true := Eq.trans rfl rfl
theorem one_bool (b : Bool) : one h (.bool b) = true := Eq.trans rfl rfl
theorem one_str (s : List UInt8) : one h (.str s) = true := Eq.trans rfl rfl
theorem one_nilp : one h .nilp = true := Eq.trans rfl rfl
theorem one_nils : one h .nils = true := Eq.trans rfl rfl
theorem one_nilm : one h .nilm = true := Eq.trans rfl rfl
theorem one_nilf : one h .nilf = true := Eq.trans rfl rfl
theorem one_ro (ag : Bool) (sz n : Nat) (f : Nat → D) : one h (.ro ag sz n f) = true := Eq.trans rfl rfl
theorem one_ra (ag : Bool) (sz : Nat) (d : D) (fo : Nat) : one h (.ra ag sz d fo) = true := Eq.trans rfl rfl
theorem one_ad (b o : Nat) : one h (.ad b o) = true := Eq.trans rfl rfl
theorem one_vs (b o e n : Nat) : one h (.vs b o e n) = true := Eq.trans rfl rfl
theorem one_fn (f : Nat) (c : List D) : one h (.fn f c) = true := Eq.trans rfl rfl
theorem one_gl (g : Nat) : one h (.gl g) = true := Eq.trans rfl rfl
theorem one_agg (cs : List D) : one h (.agg cs) = false := Eq.trans rfl rfl
theorem one_tup (cs : List D) : one h (.tup cs) = false := Eq.trans rfl rfl
theorem one_unk : one h .unk = false := Eq.trans rfl rfl
theorem one_sl (b v o n : Nat) : one h (.sl b v o n) = cur h b v := Eq.trans rfl rfl
theorem one_el (b v o n : Nat) : one h (.el b v o n) = cur h b v := Eq.trans rfl rfl
end

theorem ite_someD (c : Prop) [Decidable c] (x : D) (h : c) : (if c then some x else none) = some x := by simp [h]
theorem LeV_self (d : D) : LeV d d = True := eq_true (LeV.refl d)
theorem Le_self (d : D) : Le d d = True := eq_true (Le.refl d)
theorem LesV_self (d : List D) : LesV d d = True := eq_true (LesV.refl d)
/-- Numbers that fit. -/
theorem wrap_i64 {n : Int} (h : -9223372036854775808 ≤ n ∧ n < 9223372036854775808) : IntKind.i64.wrap n = n := by
  simp only [IntKind.wrap, IntKind.bits, IntKind.signed]
  simp
  omega
theorem wrap_i32 {n : Int} (h : -2147483648 ≤ n ∧ n < 2147483648) : IntKind.i32.wrap n = n := by
  simp only [IntKind.wrap, IntKind.bits, IntKind.signed]
  simp
  omega
theorem wrap_u64 {n : Int} (h : 0 ≤ n ∧ n < 18446744073709551616) : IntKind.u64.wrap n = n := by
  simp only [IntKind.wrap, IntKind.bits, IntKind.signed]
  simp
  omega
theorem wrap_u32 {n : Int} (h : 0 ≤ n ∧ n < 4294967296) : IntKind.u32.wrap n = n := by
  simp only [IntKind.wrap, IntKind.bits, IntKind.signed]
  simp
  omega
theorem wrap_u8 {n : Int} (h : 0 ≤ n ∧ n < 256) : IntKind.u8.wrap n = n := by
  simp only [IntKind.wrap, IntKind.bits, IntKind.signed]
  simp
  omega
theorem wrap_u32' (n : Int) : IntKind.u32.wrap n = n % 4294967296 := by
  simp only [IntKind.wrap, IntKind.bits, IntKind.signed]
  simp
theorem wrap_u64' (n : Int) : IntKind.u64.wrap n = n % 18446744073709551616 := by
  simp only [IntKind.wrap, IntKind.bits, IntKind.signed]
  simp
theorem wrap_u8' (n : Int) : IntKind.u8.wrap n = n % 256 := by
  simp only [IntKind.wrap, IntKind.bits, IntKind.signed]
  simp
end

end Go.Proofs.YtpobbfhdkbnpmaaDoor.Lv
