/- The abstract machine: operations that do not see each other change places. -/
import Derived.Test.YtpobbfhdkbnpmaaDoorLvn
set_option linter.unusedVariables false
set_option linter.unusedSimpArgs false
namespace Go.Proofs.YtpobbfhdkbnpmaaDoor.Lv
open Go Go.RowKit

inductive Kd where
  | pure | call | new | sto | oth
  deriving DecidableEq
def kd (E : Ctx) : Op → Kd
  | .call c => match c.callee with
    | .value (.func g) => if E.give g then .oth else .call
    | .value _ => .oth
    | .builtin .len | .builtin .min | .builtin .max => .pure
    | _ => .oth
  | .box .. | .alloc .. | .makeSlice .. | .buildSlice .. => .new
  | .store .. => .sto
  | .convert _ t _ => match (E.tt t).k with
    | .slc _ => .new
    | _ => .pure
  | .move .. | .assign .. | .pick .. | .load .. | .fieldAddr .. | .field .. | .nilCheck .. | .binOp .. | .unOp .. | .slice .. | .indexAddr .. | .index .. | .extract .. | .makeFunc .. | .build .. => .pure
  | _ => .oth
/-- How the own blocks may have turned behind an operation. -/
def HRel (k : Kd) (h : Hp) (nx : Nat) (h' : Hp) : Prop := match k with
  | .pure => h' = h
  | .call => ∀ b, b < nx → Same h h' b
  | .new => ∀ b, b ≠ nx → lookB h b = lookB h' b
  | .sto => ∀ b, SameS h h' b
  | .oth => True
theorem HRel.refl (k : Kd) (h : Hp) (nx : Nat) : HRel k h nx h := by cases k <;> simp [HRel, Same, SameS]
def Agree (E : Ctx) (op : Op) (s : St) (e' : Nat → D) : Prop := ∀ x ∈ op.operands, ev E s x = ev E ⟨e', s.h, s.nx⟩ x

theorem same_frz (bs : List Nat) (h : Hp) (b : Nat) : Same h (frz bs h) b := by
  unfold Same
  rw [lookB_frz]
  cases lookB h b with
  | none => rfl
  | some x => cases x <;> rfl
theorem Same.trans' {h h' h'' : Hp} {b : Nat} (e : Same h h' b) (e' : Same h' h'' b) : Same h h'' b := Eq.trans e e'
theorem sameS_up_var {h : Hp} {b : Nat} {ag : Bool} {sz : Nat} {d d' : D} (hl : lookB h b = some (.var ag sz d)) (b' : Nat) : SameS h (up h b (.var ag sz d')) b' := by
  unfold SameS
  rw [lookB_up]
  by_cases e : b' = b
  · subst e; simp [hl, shape]
  · simp [e]
theorem sameS_up_row {h : Hp} {b : Nat} {fz fz' : Bool} {ver : Nat} {ag : Bool} {sz n n' : Nat} {f f' : Nat → D} (hl : lookB h b = some (.row fz ver ag sz n f)) (b' : Nat) : SameS h (up h b (.row fz' ver ag sz n' f')) b' := by
  unfold SameS
  rw [lookB_up]
  by_cases e : b' = b
  · subst e; simp [hl, shape]
  · simp [e]
theorem new_look (h : Hp) (nx : Nat) (x : Blk) (b : Nat) (hb : b ≠ nx) : lookB h b = lookB ((nx, x) :: h) b := by simp [lookB, hb]

section
variable {E : Ctx} {s : St}
theorem ef_det {op : Op} {K : D → St → Prop} (h : ef E s op K) :
    (∃ d h nx, HRel (kd E op) s.h s.nx h ∧ K d ⟨s.e, h, nx⟩ ∧ ∀ e' (K' : D → St → Prop), Agree E op s e' → K' d ⟨e', h, nx⟩ → ef E ⟨e', s.h, s.nx⟩ op K') ∨
    (∃ p : Bool → Prop, p false ∧ (∀ b, p b → K (.bool b) s) ∧ ∀ e' (K' : D → St → Prop), Agree E op s e' → (∀ b, p b → K' (.bool b) ⟨e', s.h, s.nx⟩) → ef E ⟨e', s.h, s.nx⟩ op K') := by
  cases op
  case box t x =>
    simp only [ef] at h
    obtain ⟨h1, h2, h3⟩ := h
    refine .inl ⟨_, _, _, new_look _ _ _, h3, fun e' K' ha hk => ?_⟩
    simp only [ef, ← ha x (by simp [Op.operands])]
    exact ⟨h1, h2, hk⟩
  case alloc t =>
    simp only [ef] at h
    obtain ⟨h1, h2, h3⟩ := h
    exact .inl ⟨_, _, _, new_look _ _ _, h3, fun e' K' ha hk => ⟨h1, h2, hk⟩⟩
  case store t a x =>
    simp only [ef] at h
    obtain ⟨h1, h2, h3⟩ := h
    split at h3
    · rename_i b off hev
      split at h3
      · rename_i ag sz d hl
        obtain ⟨d', h4, h5⟩ := h3
        refine .inl ⟨_, _, _, sameS_up_var hl, h5, fun e' K' ha hk => ?_⟩
        simp only [ef, ← ha x (by simp [Op.operands]), ← ha a (by simp [Op.operands]), hev, hl]
        exact ⟨h1, h2, d', h4, hk⟩
      · exact h3.elim
    · rename_i b ver i fo hev
      split at h3
      · rename_i ver' ag sz n f hl
        obtain ⟨rfl, h5, d', h6, h7⟩ := h3
        refine .inl ⟨_, _, _, sameS_up_row hl, h7, fun e' K' ha hk => ?_⟩
        simp only [ef, ← ha x (by simp [Op.operands]), ← ha a (by simp [Op.operands]), hev, hl]
        exact ⟨h1, h2, trivial, h5, d', h6, hk⟩
      · exact h3.elim
    · exact h3.elim
  case makeSlice t l c =>
    simp only [ef] at h
    split at h
    · rename_i e k n k' n' hk hl hc
      obtain ⟨h1, h2, h3, h4, h5, h6, h7, h8, h9⟩ := h
      refine .inl ⟨_, _, _, new_look _ _ _, h9, fun e' K' ha hk' => ?_⟩
      simp only [ef, ← ha l (by simp [Op.operands]), ← ha c (by simp [Op.operands]), hk, hl, hc]
      exact ⟨h1, h2, h3, h4, h5, h6, h7, h8, hk'⟩
    · exact h.elim
  case buildSlice t n ps =>
    obtain ⟨ps⟩ := ps
    simp only [ef] at h
    split at h
    · rename_i e hk
      obtain ⟨h1, h2, h3, h4, h5, h6, h7, h8⟩ := h
      refine .inl ⟨_, _, _, new_look _ _ _, h8, fun e' K' ha hk' => ?_⟩
      have hm : ∀ p ∈ ps, ev E ⟨e', s.h, s.nx⟩ p.2 = ev E s p.2 := fun p hp => (ha p.2 (by simp only [Op.operands, List.mem_toArray, List.mem_map]; exact ⟨p, hp, rfl⟩)).symm
      have hm1 : (ps.map fun p => ev E ⟨e', s.h, s.nx⟩ p.2) = ps.map fun p => ev E s p.2 := List.map_congr_left hm
      have hm2 : (ps.all fun p => chk s.h (E.tt e).ag (E.tt e).sz (ev E ⟨e', s.h, s.nx⟩ p.2) && cl (ev E ⟨e', s.h, s.nx⟩ p.2)) = true := by
        rw [List.all_eq_true] at h7 ⊢
        intro p hp
        rw [hm p hp]
        exact h7 p hp
      simp only [ef, hk, hm1]
      exact ⟨h1, h2, h3, h4, h5, h6, hm2, hk'⟩
    · exact h.elim
  case convert src t x =>
    simp only [ef] at h
    split at h
    · rename_i e l hs ht hx
      obtain ⟨h1, h2, h3⟩ := h
      refine .inl ⟨_, _, _, ?_, h3, fun e' K' ha hk => ?_⟩
      · simp only [kd, ht]
        exact new_look _ _ _
      · simp only [ef, ← ha x (by simp [Op.operands]), hs, ht, hx]
        exact ⟨h1, h2, hk⟩
    · exact h.elim
  case binOp op t x y yt =>
    cases op
    case eql =>
      simp only [ef] at h
      split at h
      · rename_i e hk hx hy
        refine .inl ⟨_, _, _, rfl, h, fun e' K' ha hk' => ?_⟩
        simp only [ef, ← ha x (by simp [Op.operands]), ← ha y (by simp [Op.operands]), hk, hx, hy]
        exact hk'
      · rename_i e ag sz n f hk hx hy
        refine .inr ⟨fun b => b = true → n = 0, by simp, h, fun e' K' ha hk' => ?_⟩
        simp only [ef, ← ha x (by simp [Op.operands]), ← ha y (by simp [Op.operands]), hk, hx, hy]
        exact hk'
      · exact h.elim
    all_goals exact (show False from h).elim
  case call c =>
    have h' := h
    unfold ef at h'
    split at h' <;> first | (rename_i e; cases e) | exact h'.elim
    rename_i x y t u
    simp only [ef] at h
    split at h
    · rename_i e m g k h1 h3
      obtain ⟨k1, k2, k3, k4, k5, k6, h⟩ := h
      have rerun : ∀ {e' : Nat → D} {K' : D → St → Prop}, Agree E (.call { callee := .builtin .append, args := #[x, y], argTypes := #[t, u] }) s e' →
          (ev E ⟨e', s.h, s.nx⟩ x = ev E s x) ∧ (ev E ⟨e', s.h, s.nx⟩ y = ev E s y) := fun ha => ⟨(ha x (by simp [Op.operands, Call.operands])).symm, (ha y (by simp [Op.operands, Call.operands])).symm⟩
      split at h
      · rename_i hx
        obtain ⟨h4, h5, h6⟩ := h
        refine .inl ⟨_, _, _, trivial, h6, fun e' K' ha hk => ?_⟩
        obtain ⟨a1, a2⟩ := rerun (K' := K') ha
        simp only [ef, a1, a2, h1, h3, hx]
        exact ⟨k1, k2, k3, k4, k5, k6, h4, h5, hk⟩
      · rename_i b ver n hx
        split at h
        · rename_i ver' ag sz n' f hl
          obtain ⟨rfl, rfl, rfl, h4, h5, h6⟩ := h
          refine .inl ⟨_, _, _, trivial, h6, fun e' K' ha hk => ?_⟩
          obtain ⟨a1, a2⟩ := rerun (K' := K') ha
          simp only [ef, a1, a2, h1, h3, hx, hl]
          exact ⟨k1, k2, k3, k4, k5, k6, trivial, trivial, trivial, h4, h5, hk⟩
        · exact h.elim
      · exact h.elim
    · exact h.elim
  all_goals exact (show False from h).elim

/-- An operation that is wanted comes to one thing; or to a Boolean that is not known. -/
def Det (A : (St → Prop) → St → Prop) (ag : (Nat → D) → Prop) (k : Kd) (dst : Option Nat) (K : St → Prop) (s : St) : Prop :=
    (∃ d h nx, HRel k s.h s.nx h ∧ K ((⟨s.e, h, nx⟩ : St).put dst d) ∧ ∀ e' K', ag e' → K' ((⟨e', h, nx⟩ : St).put dst d) → A K' ⟨e', s.h, s.nx⟩) ∨
    (∃ p : Bool → Prop, p false ∧ (∀ b, p b → K (s.put dst (.bool b))) ∧ ∀ e' K', ag e' → (∀ b, p b → K' ((⟨e', s.h, s.nx⟩ : St).put dst (.bool b))) → A K' ⟨e', s.h, s.nx⟩)
theorem AX_det {o : Oper} {K : St → Prop} (h : AX E o K s) : Det (AX E o) (Agree E o.op s) (kd E o.op) o.dst K s := by
  have simple : (∀ K s', AX E o K s' = ork (pv E s' o.op) (KP K s' o.dst) (ef E s' o.op (KT K o.dst))) → Det (AX E o) (Agree E o.op s) (kd E o.op) o.dst K s := by
    intro hAX
    rw [hAX] at h
    have hpv : ∀ e', Agree E o.op s e' → pv E ⟨e', s.h, s.nx⟩ o.op = pv E s o.op := fun e' ha => (pv_congr ha fun x hx b hb => Same.of_eq rfl).symm
    unfold ork at h
    split at h
    · rename_i d hd
      refine .inl ⟨d, s.h, s.nx, HRel.refl _ _ _, h, fun e' K' ha hk => ?_⟩
      rw [hAX, hpv e' ha, hd]
      exact hk
    · rename_i hd
      rcases ef_det h with ⟨d, h1, nx, h2, h3, h4⟩ | ⟨p, h1, h2, h3⟩
      · refine .inl ⟨d, h1, nx, h2, h3, fun e' K' ha hk => ?_⟩
        rw [hAX, hpv e' ha, hd]
        exact h4 e' _ ha hk
      · refine .inr ⟨p, h1, h2, fun e' K' ha hk => ?_⟩
        rw [hAX, hpv e' ha, hd]
        exact h3 e' _ ha hk
  by_cases hc : ∃ f xs ts, o.op = .call { callee := .value f, args := ⟨xs⟩, argTypes := ts }
  · obtain ⟨f, xs, ts, ho⟩ := hc
    unfold AX at h
    rw [ho] at h
    simp only at h
    split at h
    · rename_i g cap hf
      obtain ⟨bs, d, h', h0, h1, h2, h3⟩ := h
      have hx : ∀ e', Agree E o.op s e' → ev E ⟨e', s.h, s.nx⟩ f = .fn g cap ∧ xs.map (ev E ⟨e', s.h, s.nx⟩) = xs.map (ev E s) := fun e' ha => by
        rw [ho] at ha
        exact ⟨(ha f (by simp [Op.operands, Call.operands])).symm.trans hf, List.map_congr_left fun x hx => (ha x (by simp [Op.operands, Call.operands, hx])).symm⟩
      refine .inl ⟨exD (ex bs s.nx) d, _, _, ?_, h3, fun e' K' ha hk => ?_⟩
      · rw [ho]
        cases f with
        | tmp => simp [kd, HRel]
        | const => simp [kd, HRel]
        | global => simp [kd, HRel]
        | func g' =>
        simp only [ev, D.fn.injEq] at hf
        obtain ⟨rfl, rfl⟩ := hf
        cases hg : E.give g' with
        | true => simp [kd, hg, HRel]
        | false =>
          obtain rfl : bs = [] := h0.resolve_left (by rw [hg]; simp)
          simp only [kd, hg, Bool.false_eq_true, if_false, HRel]
          intro b hb
          refine (same_frz (if (flat d && h'.isEmpty) = true then [] else fsOf s [] (xs.map (ev E s) ++ [])) s.h b).trans' (Same.of_eq ?_)
          exact (mrg_out h' _ fun i y _ e => by simp only [ex, List.length_nil] at e; rw [if_neg (by omega)] at e; omega).symm
      · obtain ⟨a1, a2⟩ := hx e' ha
        unfold AX
        rw [ho]
        simp only [a1, a2]
        exact ⟨bs, d, h', h0, h1, h2, hk⟩
    · exact h.elim
  · refine simple fun K s' => ?_
    unfold AX
    split
    · rename_i f xs ts ho
      exact (hc ⟨_, _, _, ho⟩).elim
    · rfl

/-- What an operation looks at, its guard too. -/
def AgreeT (E : Ctx) (ops : Array Oper) (o : Oper) (s : St) (e' : Nat → D) : Prop :=
  Agree E o.op s e' ∧ ∀ g want t, o.guard = some (g, want) → (ops[g]?).bind (·.dst) = some t → s.e t = e' t
theorem AT_det {ops : Array Oper} {o : Oper} {K : St → Prop} (h : AT E ops o K s) : Det (AT E ops o) (AgreeT E ops o s) (kd E o.op) o.dst K s := by
  unfold AT at h
  split at h
  · rename_i hg
    have e : ∀ K s', AT E ops o K s' = AX E o K s' := fun K s' => by unfold AT; rw [hg]
    rcases AX_det h with ⟨d, h1, nx, h2, h3, h4⟩ | ⟨p, h1, h2, h3⟩
    · exact .inl ⟨d, h1, nx, h2, h3, fun e' K' ha hk => by rw [e]; exact h4 e' K' ha.1 hk⟩
    · exact .inr ⟨p, h1, h2, fun e' K' ha hk => by rw [e]; exact h3 e' K' ha.1 hk⟩
  · rename_i g want hg
    split at h
    · rename_i t ht
      have e : ∀ K s', AT E ops o K s' = gd (s'.e t) want (AX E o K s') (K (s'.put o.dst (.tup []))) := fun K s' => by unfold AT; rw [hg]; simp only [ht]
      unfold gd at h
      split at h
      · rename_i b hb
        by_cases hw : b = want
        · have hgd : ∀ (e' : Nat → D) K', e' t = .bool b → AX E o K' ⟨e', s.h, s.nx⟩ → gd (e' t) want (AX E o K' ⟨e', s.h, s.nx⟩) (K' ((⟨e', s.h, s.nx⟩ : St).put o.dst (.tup []))) := fun e' K' he hx => by
            rw [he]; exact ⟨fun _ => hx, fun hn => (hn hw).elim⟩
          rcases AX_det (h.1 hw) with ⟨d, h1, nx, h2, h3, h4⟩ | ⟨p, h1, h2, h3⟩
          · exact .inl ⟨d, h1, nx, h2, h3, fun e' K' ha hk => by rw [e]; exact hgd e' K' ((ha.2 g want t hg ht).symm.trans hb) (h4 e' K' ha.1 hk)⟩
          · exact .inr ⟨p, h1, h2, fun e' K' ha hk => by rw [e]; exact hgd e' K' ((ha.2 g want t hg ht).symm.trans hb) (h3 e' K' ha.1 hk)⟩
        · refine .inl ⟨.tup [], s.h, s.nx, HRel.refl _ _ _, h.2 hw, fun e' K' ha hk => ?_⟩
          rw [e]
          show gd (e' t) want _ _
          rw [← ha.2 g want t hg ht, hb]
          exact ⟨fun hn => (hw hn).elim, fun _ => hk⟩
      · rename_i ds hb
        refine .inl ⟨.tup [], s.h, s.nx, HRel.refl _ _ _, h, fun e' K' ha hk => ?_⟩
        rw [e]
        show gd (e' t) want _ _
        rw [← ha.2 g want t hg ht, hb]
        exact hk
      · exact h.elim
    · exact h.elim

/-- What only reckons or reads. -/
def isP (E : Ctx) (op : Op) : Bool := (kd E op == .pure) && match op with
  | .binOp .eql t _ _ _ => match (E.tt t).k with
    | .slc _ => false
    | _ => true
  | _ => true
def pvG (E : Ctx) (ops : Array Oper) (o : Oper) (s : St) : Option D := match o.guard with
  | none => pv E s o.op
  | some (g, want) => match (ops[g]?).bind (·.dst) with
    | some t => match s.e t with
      | .bool b => if b = want then pv E s o.op else some (.tup [])
      | .tup _ => some (.tup [])
      | _ => none
    | none => none
theorem ef_pure {op : Op} (hp : isP E op = true) (K : D → St → Prop) : ¬ ef E s op K := by
  intro h
  cases op <;> try exact h
  case box => simp [isP, kd] at hp
  case alloc => simp [isP, kd] at hp
  case store => simp [isP, kd] at hp
  case makeSlice => simp [isP, kd] at hp
  case buildSlice => simp [isP, kd] at hp
  case convert src t x =>
    simp only [ef] at h
    split at h
    · rename_i e l hs ht hx
      simp [isP, kd, ht] at hp
    · exact h
  case binOp op t x y yt =>
    cases op <;> try exact h
    simp only [ef] at h
    split at h
    · rename_i e hk hx hy
      simp [isP, kd, hk] at hp
    · rename_i hk hx hy
      simp [isP, kd, hk] at hp
    · exact h
  case call c =>
    have h' := h
    unfold ef at h'
    split at h' <;> first | (rename_i e; cases e) | exact h'.elim
    simp [isP, kd] at hp
theorem AX_pure {o : Oper} (hp : isP E o.op = true) (K : St → Prop) : AX E o K s ↔ ∃ d, pv E s o.op = some d ∧ K (s.put o.dst d) := by
  have hc : ∀ f xs ts, o.op ≠ .call { callee := .value f, args := ⟨xs⟩, argTypes := ts } := fun f xs ts e => by
    rw [e] at hp
    cases f with
    | func g => cases hg : E.give g <;> simp [isP, kd, hg] at hp
    | tmp => simp [isP, kd] at hp
    | const => simp [isP, kd] at hp
    | global => simp [isP, kd] at hp
  have : AX E o K s = ork (pv E s o.op) (KP K s o.dst) (ef E s o.op (KT K o.dst)) := by
    unfold AX
    split
    · rename_i f xs ts ho
      exact (hc _ _ _ ho).elim
    · rfl
  rw [this]
  unfold ork
  cases hpv : pv E s o.op with
  | none => simp [ef_pure hp]
  | some d => simp [KP]
theorem AT_pure {ops : Array Oper} {o : Oper} (hp : isP E o.op = true) (K : St → Prop) : AT E ops o K s ↔ ∃ d, pvG E ops o s = some d ∧ K (s.put o.dst d) := by
  unfold AT pvG
  cases hg : o.guard with
  | none => exact AX_pure hp K
  | some q =>
    obtain ⟨g, want⟩ := q
    simp only
    cases ht : (ops[g]?).bind (·.dst) with
    | none => simp
    | some t =>
      simp only
      cases he : s.e t <;> simp only [gd, reduceCtorEq, false_and, exists_false]
      case bool b =>
        by_cases hw : b = want
        · simp [hw, AX_pure hp K]
        · simp [hw]
      case tup ds => simp
end

end Go.Proofs.YtpobbfhdkbnpmaaDoor.Lv
