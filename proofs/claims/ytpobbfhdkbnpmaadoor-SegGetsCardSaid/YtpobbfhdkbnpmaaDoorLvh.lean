/- The abstract machine: new variables, and stores. -/
import Derived.Test.YtpobbfhdkbnpmaaDoorLvg
set_option linter.unusedVariables false
set_option linter.unusedSimpArgs false
namespace Go.Proofs.YtpobbfhdkbnpmaaDoor.Lv
open Go Go.RowKit

section
variable {H : Hp} {φ : Ph} {S : Nat → Prop} {w : World}
theorem one_cell {d : D} {v : Value} (hr : RepV H φ S w d v) (h : one H d = true) : v.oneCell' = true := by
  cases d <;> simp only [one, Bool.false_eq_true] at h
  case sl b ver off n =>
    simp only [RepV] at hr
    obtain ⟨fz, ver', ag, sz, m, f, hl, hv, hr⟩ := hr
    simp only [cur, hl, beq_iff_eq] at h
    obtain ⟨_, a, cap, rfl, _⟩ := hr h.symm
    rfl
  case el b ver i fo =>
    obtain ⟨fz, ag, sz, m, f, hl, h3, c, t', hph, rfl⟩ := el_cur (by simpa only [RepV] using hr) h
    rfl
  all_goals simp only [RepV, Rep0] at hr
  case int => subst hr; rfl
  case bool => subst hr; rfl
  case str => subst hr; rfl
  case nilp => subst hr; rfl
  case nils => subst hr; rfl
  case nilm => subst hr; rfl
  case nilf => subst hr; rfl
  case gl => subst hr; rfl
  case ro => obtain ⟨a, cap, rfl, _⟩ := hr; rfl
  case ra => obtain ⟨b, o, x, vs, rfl, _⟩ := hr; rfl
  case ad => obtain ⟨ag, sz, d, c, t, _, _, rfl⟩ := hr; rfl
  case vs => obtain ⟨ag, sz, d, c, t, a, cap, _, _, rfl, _⟩ := hr; rfl
  case fn => obtain ⟨vs, rfl, _⟩ := hr; rfl
theorem all_one : ∀ {ds : List D} {vs : List Value}, RepVs H φ S w ds vs → ds.all (one H) = true → ∀ y ∈ vs, y.oneCell' = true
  | [], vs, h, _, y, hy => by simp only [RepVs] at h; subst h; cases hy
  | d :: ds, vs, h, h1, y, hy => by
    simp only [RepVs] at h
    obtain ⟨v, vs', rfl, h2, h3⟩ := h
    simp only [List.all_cons, Bool.and_eq_true] at h1
    rcases List.mem_cons.1 hy with rfl | hy
    · exact one_cell h2 h1.1
    · exact all_one h3 h1.2 y hy
theorem chk_cells {ag : Bool} {sz : Nat} {d : D} {v : Value} (hr : RepV H φ S w d v) (h : chk H ag sz d = true) :
    ∃ vs, v.cells = ⟨vs⟩ ∧ Cells ag v vs ∧ vs.length = sz ∧ (∀ y ∈ vs, y.oneCell' = true) := by
  unfold chk at h
  split at h
  · rename_i cs hcs
    simp only [Bool.and_eq_true, beq_iff_eq] at h
    obtain ⟨hl, h1⟩ := h
    unfold cellsOf at hcs
    cases ag with
    | true =>
      simp only [if_true] at hcs
      cases d <;> simp only [asAgg, Option.some.injEq, reduceCtorEq] at hcs
      subst hcs
      simp only [RepV] at hr
      obtain ⟨vs, rfl, hr⟩ := hr
      exact ⟨vs, rfl, rfl, by rw [hr.length]; exact hl, all_one hr h1⟩
    | false =>
      simp only [Bool.false_eq_true, if_false, Option.some.injEq] at hcs
      subst hcs
      simp only [List.all_cons, List.all_nil, Bool.and_true] at h1
      have := one_cell hr h1
      refine ⟨[v], ?_, rfl, by simpa using hl, by simpa using this⟩
      cases v <;> first | rfl | simp [Value.oneCell'] at this
  · cases h
mutual
theorem cl_rep : ∀ (d : D) (v : Value), RepV H φ S w d v → cl d = true → Rep0 S w d v
  | .int .., _, h, _ | .bool .., _, h, _ | .str .., _, h, _ | .nilp, _, h, _ | .nils, _, h, _ | .nilm, _, h, _ | .nilf, _, h, _ | .gl .., _, h, _ | .unk, _, h, _ | .ro .., _, h, _ | .ra .., _, h, _ => by simpa only [RepV] using h
  | .sl .., _, _, h | .ad .., _, _, h | .el .., _, _, h | .vs .., _, _, h => by simp only [cl, Bool.false_eq_true] at h
  | .agg cs, v, h, hc => by
    simp only [Rep0, RepV, cl] at h hc ⊢
    obtain ⟨vs, e, h⟩ := h
    exact ⟨vs, e, cls_rep cs vs h hc⟩
  | .tup cs, v, h, hc => by
    simp only [Rep0, RepV, cl] at h hc ⊢
    obtain ⟨vs, e, h⟩ := h
    exact ⟨vs, e, cls_rep cs vs h hc⟩
  | .fn f cs, v, h, hc => by
    simp only [Rep0, RepV, cl] at h hc ⊢
    obtain ⟨vs, e, h⟩ := h
    exact ⟨vs, e, cls_rep cs vs h hc⟩
theorem cls_rep : ∀ (ds : List D) (vs : List Value), RepVs H φ S w ds vs → cls ds = true → Rep0s S w ds vs
  | [], vs, h, _ => by simpa only [Rep0s, RepVs] using h
  | d :: ds, vs, h, hc => by
    simp only [Rep0s, RepVs, cls, Bool.and_eq_true] at h hc ⊢
    obtain ⟨v, vs', e, h1, h2⟩ := h
    exact ⟨v, vs', e, cl_rep d v h1 hc.1, cls_rep ds vs' h2 hc.2⟩
end
end

theorem store_run (P : Program) {c o : Nat} {e : TypeId} {lo hi : Nat} : ∀ (us : List Value) (i : Nat) (vs : List Value) (w : World), w.heap[c]? = some (.cells ⟨vs⟩ e (lo, hi)) → o + i + us.length ≤ vs.length →
    (∀ j, j < vs.length → ¬ (lo ≤ j ∧ j < hi)) → (∀ y ∈ us, y.oneCell' = true) →
    (storeCells ⟨c, o, none⟩ us i).run P w = .ok () (w.setRow c (vs.take (o + i) ++ us ++ vs.drop (o + i + us.length)).toArray)
  | [], i, vs, w, hg, _, _, _ => by
    simp only [storeCells, List.append_nil, List.length_nil, Nat.add_zero, List.take_append_drop]
    rw [setRow_self w c vs.toArray e (lo, hi) hg]
    rfl
  | v :: rest, i, vs, w, hg, hl, hf, h1 => by
    have hi' : o + i < vs.length := by simp at hl; omega
    have hcell : w.cell? ⟨c, o + i, none⟩ = some vs[o + i] := by simp [World.cell?, hg, hi']
    have hfro : w.frozen? ⟨c, o + i, none⟩ = false := by
      have := hf (o + i) hi'
      simp only [World.frozen?, hg]
      rw [Bool.and_eq_false_iff, decide_eq_false_iff_not, decide_eq_false_iff_not]
      by_cases hlo : lo ≤ o + i
      · exact .inr fun h => this ⟨hlo, h⟩
      · exact .inl hlo
    have hst : (store ((⟨c, o, none⟩ : Addr).add i) v).run P w = .ok () (w.setRow c (vs.set (o + i) v).toArray) := by
      rw [add_at, run_store P w _ v _ (h1 v (by simp)), hcell]
      simp [hfro, setCell_eq_setRow w c (o + i) vs.toArray e (lo, hi) v hg]
    have ih := store_run P rest (i + 1) (vs.set (o + i) v) (w.setRow c (vs.set (o + i) v).toArray) (setRow_heap w c vs.toArray _ e _ hg) (by simp at hl ⊢; omega : o + (i + 1) + rest.length ≤ (vs.set (o + i) v).length) (by simpa using hf) (fun x hx => h1 x (by simp [hx]))
    simp only [storeCells, Sem.run_bind, hst, Result.andThen_ok, ih, setRow_setRow]
    congr 3
    have e := list_seg_step vs (o + i) v rest (by simp at hl ⊢; omega)
    simpa [Nat.add_assoc] using e

/-- What a step that makes or writes memory comes to. -/
def Goes (E : Ctx) (B : Base) (s : St) (S : Nat → Prop) (a : Act) (w : World) (o : Oper) (K : D → St → Prop) : Prop :=
  ∃ d s' φ' n v w', (execOp a.eval o).run E.P w = .ok n w' ∧ ((n = .value v) ∨ (n = .skip ∧ v = undef)) ∧ K d s' ∧ s'.e = s.e ∧ Rel B s' φ' S a w' ∧ RepV s'.h φ' S w' d v

section
variable {E : Ctx} {B : Base} {s : St} {φ : Ph} {S : Nat → Prop} {a : Act} {w : World}

/-- A new variable. -/
theorem var_new (hr : Rel B s φ S a w) {t : Nat} {ag : Bool} {sz : Nat} {d : D} {v : Value} (hv : RepV s.h φ S w d v) (hc : chk s.h ag sz d = true) :
    ∃ φ', Rel B ⟨s.e, (s.nx, .var ag sz d) :: s.h, s.nx + 1⟩ φ' S a (w.alloc (.cells v.cells t)) ∧ RepV ((s.nx, .var ag sz d) :: s.h) φ' S (w.alloc (.cells v.cells t)) (.ad s.nx 0) (.pointer (some ⟨w.heap.size, 0, none⟩)) := by
  obtain ⟨vs, h1, h2, h3, h4⟩ := chk_cells hv hc
  have hT := turn_new hr (.var ag sz d) (some (w.heap.size, sz)) (fun c t e => by cases e; rfl) (w1 := w.alloc (.cells v.cells t)) rfl rfl rfl (by simp) (fun k hk => Below.heap_alloc w _ k hk) (fun _ => by simp)
  refine ⟨_, hT.rel hr fun x hx => ?_, ?_⟩
  · simp only [lookB, if_true, Option.some.injEq] at hx
    subst hx
    refine ⟨w.heap.size, sz, by simp [phUp], fun h => Nat.lt_irrefl _ (hr.slt _ h), v, vs, t, 0, 0, ?_, h3, ⟨by simp, h4⟩, h2, ?_⟩
    · rw [h1]; exact Go.heap_alloc_new w _
    · exact RepV.mono hT.hpext (hT.kept hr.slt) (fun _ h => h) _ _ hv
  · simp only [RepV]
    exact ⟨ag, sz, d, w.heap.size, sz, by simp [lookB], by simp [phUp], rfl⟩

theorem box_sound (hr : Rel B s φ S a w) (hev : ∀ x, RepV s.h φ S w (ev E s x) (a.eval x)) {o : Oper} {t : Nat} {x : Operand} (ho : o.op = .box t x) {K : D → St → Prop} (h : ef E s o.op K) : Goes E B s S a w o K := by
  rw [ho] at h
  simp only [ef] at h
  obtain ⟨hk, hc, hK⟩ := h
  obtain ⟨φ', h1, h2⟩ := var_new (t := t) hr (hev x) hc
  refine ⟨_, _, φ', .value (.pointer (some ⟨w.heap.size, 0, none⟩)), _, _, ?_, .inl rfl, hK, rfl, h1, h2⟩
  simp [execOp, ho, Instr.box, newVar, newRow]

theorem alloc_sound (hr : Rel B s φ S a w) {o : Oper} {t : Nat} (ho : o.op = .alloc t) {K : D → St → Prop} (h : ef E s o.op K) : Goes E B s S a w o K := by
  rw [ho] at h
  simp only [ef] at h
  obtain ⟨hz, hc, hK⟩ := h
  have hk : (E.tt t).k ≠ .bad := by
    intro e
    rw [E.htt] at e hz
    unfold tiOf at e hz
    split at e
    · rename_i d _ _; cases d <;> simp [tkOf] at e
    · rename_i hno
      revert hz
      cases h1 : E.P.info? t <;> cases h2 : E.P.underlying t <;> simp
      exact (hno _ _ h1 h2).elim
  obtain ⟨i, ds, hi, hu, he⟩ := ti_of hk
  have hz' : i.zero.isSome = true := by rw [he] at hz; exact hz
  obtain ⟨z, hz'⟩ := Option.isSome_iff_exists.1 hz'
  have hzd : (E.tt t).zero = ofVal z := by rw [he]; simp [hz']
  have hv : RepV s.h φ S w (E.tt t).zero z := by rw [hzd]; exact Rep0.toV _ _ (ofVal_rep z)
  obtain ⟨φ', h1, h2⟩ := var_new (t := t) hr hv hc
  refine ⟨_, _, φ', .value (.pointer (some ⟨w.heap.size, 0, none⟩)), _, _, ?_, .inl rfl, hK, rfl, h1, h2⟩
  simp [execOp, ho, Instr.alloc, zeroValue, run_info hi, hz', newVar, newRow]
theorem storeVar_run {t : Nat} (hk : (E.tt t).k ≠ .bad) {c off : Nat} {us vs : List Value} {e : TypeId} {lo hi : Nat} {v : Value} (hc : v.cells = ⟨us⟩) (hl : us.length = (E.tt t).sz) (hg : w.heap[c]? = some (.cells ⟨vs⟩ e (lo, hi)))
    (hle : off + us.length ≤ vs.length) (hf : ∀ j, j < vs.length → ¬ (lo ≤ j ∧ j < hi)) (h1 : ∀ y ∈ us, y.oneCell' = true) :
    (Instr.storeAt t (.pointer (some ⟨c, off, none⟩)) v).run E.P w = .ok () (w.setRow c (vs.take off ++ us ++ vs.drop (off + us.length)).toArray) := by
  obtain ⟨i, ds, hi', hu, he⟩ := ti_of hk
  have hsz : us.length = i.size := by rw [hl, he]
  have hs := store_run E.P (o := off) us 0 vs w hg (by omega) hf h1
  simp only [Nat.add_zero] at hs
  simp [Instr.storeAt, Instr.sureAddr, storeVar, hc, run_size hi', hsz, hs]

theorem splice_get {α : Type} {vs us : List α} {p : Nat} (h : p + us.length ≤ vs.length) (k : Nat) :
    (vs.take p ++ us ++ vs.drop (p + us.length))[k]? = if p ≤ k ∧ k < p + us.length then us[k - p]? else vs[k]? := by
  rw [List.append_assoc, List.getElem?_append]
  simp only [List.length_take, Nat.min_eq_left (show p ≤ vs.length by omega)]
  by_cases h1 : k < p
  · rw [if_pos h1, if_neg (by omega), List.getElem?_take, if_pos h1]
  · rw [if_neg h1, List.getElem?_append]
    by_cases h2 : k - p < us.length
    · rw [if_pos h2, if_pos (by omega)]
    · rw [if_neg h2, if_neg (by omega), List.getElem?_drop]
      congr 1
      omega
theorem splice_seg {α : Type} {vs us : List α} {q sz fo : Nat} (h : q + fo + us.length ≤ vs.length) (h2 : fo + us.length ≤ sz) :
    (((vs.take (q + fo) ++ us ++ vs.drop (q + fo + us.length)).drop q).take sz) = ((vs.drop q).take sz).take fo ++ us ++ ((vs.drop q).take sz).drop (fo + us.length) := by
  apply List.ext_getElem?
  intro k
  rw [splice_get (by simp; omega)]
  simp only [List.getElem?_take, List.getElem?_drop]
  rw [splice_get h]
  by_cases hk : k < sz
  · rw [if_pos hk]
    by_cases hm : fo ≤ k ∧ k < fo + us.length
    · rw [if_pos (by omega), if_pos hm]
      congr 1
      omega
    · rw [if_neg (by omega), if_neg hm]
      simp [hk]
  · rw [if_neg hk, if_neg (by omega)]
    simp [hk]
theorem splice_other {α : Type} {vs us : List α} {p q sz : Nat} (h : p + us.length ≤ vs.length) (h2 : q + sz ≤ p ∨ p + us.length ≤ q) :
    (((vs.take p ++ us ++ vs.drop (p + us.length)).drop q).take sz) = (vs.drop q).take sz := by
  apply List.ext_getElem?
  intro k
  simp only [List.getElem?_take, List.getElem?_drop]
  rw [splice_get h]
  by_cases hk : k < sz
  · rw [if_pos hk, if_pos hk, if_neg (by omega)]
  · rw [if_neg hk, if_neg hk]
mutual
theorem cl_of_rep {w : World} : ∀ (d : D) (v : Value), Rep0 S w d v → cl d = true
  | .int .., _, h | .bool .., _, h | .str .., _, h | .nilp, _, h | .nils, _, h | .nilm, _, h | .nilf, _, h | .gl .., _, h | .unk, _, h | .ro .., _, h | .ra .., _, h => by simp only [cl]
  | .sl .., _, h | .ad .., _, h | .el .., _, h | .vs .., _, h => by simp only [Rep0] at h
  | .agg cs, v, h => by simp only [Rep0, cl] at h ⊢; obtain ⟨vs, _, h⟩ := h; exact cls_of_rep cs vs h
  | .tup cs, v, h => by simp only [Rep0, cl] at h ⊢; obtain ⟨vs, _, h⟩ := h; exact cls_of_rep cs vs h
  | .fn f cs, v, h => by simp only [Rep0, cl] at h ⊢; obtain ⟨vs, _, h⟩ := h; exact cls_of_rep cs vs h
theorem cls_of_rep {w : World} : ∀ (ds : List D) (vs : List Value), Rep0s S w ds vs → cls ds = true
  | [], _, _ => rfl
  | d :: ds, vs, h => by
    simp only [Rep0s, cls, Bool.and_eq_true] at h ⊢
    obtain ⟨v, vs', _, h1, h2⟩ := h
    exact ⟨cl_of_rep d v h1, cls_of_rep ds vs' h2⟩
end
theorem cls_iff : ∀ ds : List D, cls ds = true ↔ ∀ d ∈ ds, cl d = true
  | [] => by simp [cls]
  | d :: ds => by simp [cls, cls_iff ds]
theorem cells_cl {ag : Bool} {d : D} {cs : List D} (h : cellsOf ag d = some cs) (hc : cl d = true) : cls cs = true := by
  unfold cellsOf at h
  cases ag with
  | true =>
    simp only [if_true] at h
    cases d <;> simp only [asAgg, Option.some.injEq, reduceCtorEq] at h
    subst h
    simpa only [cl] using hc
  | false =>
    simp only [Bool.false_eq_true, if_false, Option.some.injEq] at h
    subst h
    simp [cls, hc]
theorem wr_cl {ag ag' : Bool} {sz off n : Nat} {d v d' : D} {x : Value} {w : World} (hv : cl v = true) (h : wr ag' sz d off ag n v = some d') (hr : Rep0 S w d x) : cl d' = true := by
  unfold wr at h
  split at h
  · cases h; exact hv
  · cases hcs : cellsOf ag' d with
    | none => rw [hcs] at h; cases h
    | some cs =>
      cases hvs : cellsOf ag v with
      | none => rw [hcs, hvs] at h; cases h
      | some es =>
        rw [hcs, hvs] at h
        simp only [Option.bind_some] at h
        have r1 := (cls_iff _).1 (cells_cl hcs (cl_of_rep d x hr))
        have r2 := (cls_iff _).1 (cells_cl hvs hv)
        split at h
        · split at h
          · simp only [Option.some.injEq] at h
            subst h
            simp only [cl, cls_iff, List.mem_append]
            rintro d ((hd | hd) | hd)
            · exact r1 d (List.mem_of_mem_take hd)
            · exact r2 d hd
            · exact r1 d (List.mem_of_mem_drop hd)
          · exact r2 d' (List.mem_of_mem_head? h)
        · cases h

/-- What is written over a part, of what it is cells then. -/
theorem wr_rep {H : Hp} {φ : Ph} {ag ag' : Bool} {sz off n : Nat} {d v d' : D} {x y : Value} {vs us : List Value} (hl : vs.length = sz) (hul : us.length = n) (hc : Cells ag' x vs) (hr : RepV H φ S w d x) (hcy : Cells ag y us) (hry : RepV H φ S w v y)
    (h : wr ag' sz d off ag n v = some d') : off + n ≤ vs.length ∧ ∃ z, Cells ag' z (vs.take off ++ us ++ vs.drop (off + n)) ∧ RepV H φ S w d' z := by
  unfold wr at h
  split at h
  · rename_i hw
    simp only [Bool.and_eq_true, beq_iff_eq] at hw
    obtain ⟨⟨⟨rfl, rfl⟩, rfl⟩, rfl⟩ := hw
    simp only [Option.some.injEq] at h
    subst h
    refine ⟨by omega, y, ?_, hry⟩
    rw [List.drop_of_length_le (by omega)]
    simpa using hcy
  · cases hcs : cellsOf ag' d with
    | none => rw [hcs] at h; cases h
    | some cs =>
      cases hvs : cellsOf ag v with
      | none => rw [hcs, hvs] at h; cases h
      | some es =>
        rw [hcs, hvs] at h
        simp only [Option.bind_some] at h
        have r1 := cells_rep hc hr hcs
        have r2 := cells_rep hcy hry hvs
        split at h
        · rename_i hle
          rw [← r1.length] at hle
          refine ⟨hle, ?_⟩
          have r3 := ((r1.take off).append r2).append (r1.drop (off + n))
          cases ag' with
          | true =>
            simp only [if_true, Option.some.injEq] at h
            subst h
            exact ⟨_, rfl, by simp only [RepV]; exact ⟨_, rfl, r3⟩⟩
          | false =>
            simp only [Bool.false_eq_true, if_false] at h
            simp only [Cells, Bool.false_eq_true, if_false] at hc
            rw [hc] at hl hle
            simp only [List.length_singleton] at hl hle
            cases es with
            | nil => cases h
            | cons e0 er =>
              simp only [List.head?_cons, Option.some.injEq] at h
              subst h
              simp only [RepVs] at r2
              obtain ⟨u0, ur, rfl, q1, q2⟩ := r2
              simp only [List.length_cons] at hul
              obtain rfl : off = 0 := by omega
              obtain rfl : ur = [] := List.eq_nil_of_length_eq_zero (by omega)
              refine ⟨u0, ?_, q1⟩
              rw [hc, ← hul]
              simp [Cells]
        · cases h

theorem store_sound (hr : Rel B s φ S a w) (hev : ∀ x, RepV s.h φ S w (ev E s x) (a.eval x)) {o : Oper} {t : Nat} {ad x : Operand} (ho : o.op = .store t ad x) {K : D → St → Prop} (h : ef E s o.op K) : Goes E B s S a w o K := by
  have hun : RepV s.h φ S w (.tup []) undef := by simp only [RepV]; exact ⟨[], rfl, rfl⟩
  rw [ho] at h
  simp only [ef] at h
  obtain ⟨hk, hchk, h⟩ := h
  obtain ⟨us, hcu, hcells, hul, h1u⟩ := chk_cells (hev x) hchk
  split at h
  · rename_i b off e
    split at h
    · rename_i ag sz d hl
      obtain ⟨d', hw, hK⟩ := h
      have hx := hev ad
      rw [e] at hx
      simp only [RepV] at hx
      obtain ⟨ag', sz', d0, c, t0, hl', hph, hv⟩ := hx
      obtain ⟨c', t', hph', hns, y, vs, ty, lo, hi, hheap, hlen, ⟨hfz, h1c⟩, hcy, hry⟩ := hr.hp.blk b _ hl
      rw [hph] at hph'
      simp only [Option.some.injEq, Prod.mk.injEq] at hph'
      obtain ⟨rfl, rfl⟩ := hph'
      obtain ⟨hle, z, hcz, hrz⟩ := wr_rep hlen hul hcy hry hcells (hev x) hw
      rw [← hul] at hle hcz
      have hrun := storeVar_run (E := E) (w := w) hk hcu hul hheap hle (by rw [hlen]; exact hfz) h1u
      have hT := turn_up hr hl (x := .var ag sz d') (some (c, t0)) (w1 := w.setRow c (vs.take off ++ us ++ vs.drop (off + us.length)).toArray) (fun c' t' e' => by rw [hph] at e'; cases e'; exact hns)
        ⟨fun _ _ _ he => (by cases he; exact ⟨⟨_, rfl⟩, hph.symm⟩), fun _ _ _ _ _ _ he => by cases he⟩ (fun c' t' e' => by cases e'; exact .inr ⟨_, hph⟩) rfl rfl rfl (by simp) (fun k _ hne => setRow_other w c k _ (hne c t0 hph))
      refine ⟨_, _, _, .skip, _, _, ?_, .inr ⟨rfl, rfl⟩, hK, rfl, hT.rel hr fun q hq => ?_, ?_⟩
      · simp [execOp, ho, hv, hrun]
      · rw [lookB_up] at hq
        simp only [hl, Option.isSome_some, and_self, if_true, Option.some.injEq] at hq
        subst hq
        refine ⟨c, t0, by simp [phUp], hns, z, _, ty, lo, hi, setRow_heap w c ⟨vs⟩ _ ty (lo, hi) hheap, ?_, ⟨hfz, ?_⟩, hcz, RepV.mono hT.hpext (hT.kept hr.slt) (fun _ h => h) _ _ hrz⟩
        · simp; omega
        · intro y hy
          simp only [List.mem_append] at hy
          rcases hy with (hy | hy) | hy
          · exact h1c y (List.mem_of_mem_take hy)
          · exact h1u y hy
          · exact h1c y (List.mem_of_mem_drop hy)
      · exact RepV.mono hT.hpext (hT.kept hr.slt) (fun _ h => h) _ _ hun
    · exact h.elim
  · rename_i b ver i fo e
    split at h
    · rename_i ver' ag sz n f hl
      obtain ⟨rfl, hcl, d', hw, hK⟩ := h
      have hx := hev ad
      rw [e] at hx
      simp only [RepV] at hx
      obtain ⟨fz, ag0, sz0, m0, f0, hl0, hin, c, tot, hph, hv⟩ := el_cur hx (by simp [cur, hl])
      rw [hl] at hl0
      simp only [Option.some.injEq, Blk.row.injEq] at hl0
      obtain ⟨rfl, _, rfl, rfl, rfl, rfl⟩ := hl0
      obtain ⟨hS1, _, htot, hntot, vs, ty, lo, hi, hheap, hlen, ⟨hfz, h1c⟩, hels⟩ := (hr.hp.blk b _ hl).2 c tot hph
      have hns := hS1 rfl
      obtain ⟨y, hcy, hry⟩ := hels i hin
      have hisz : i * sz + sz ≤ vs.length := by
        rw [hlen]
        calc i * sz + sz = (i + 1) * sz := by rw [Nat.add_mul]; omega
          _ ≤ tot * sz := Nat.mul_le_mul_right _ (by omega)
      obtain ⟨hle, z, hcz, hrz⟩ := wr_rep (by simp; omega) hul hcy (Rep0.toV (H := s.h) (φ := φ) _ _ hry) hcells (hev x) hw
      simp only [List.length_take, List.length_drop] at hle
      rw [← hul] at hle hcz
      have hrun := storeVar_run (E := E) (w := w) hk hcu hul hheap (off := i * sz + fo) (by omega) (by rw [hlen]; exact hfz) h1u
      have hT := turn_up hr hl (x := .row false ver ag sz n fun j => if j = i then d' else f j) (some (c, tot)) (w1 := w.setRow c (vs.take (i * sz + fo) ++ us ++ vs.drop (i * sz + fo + us.length)).toArray)
        (fun c' t' e' => by rw [hph] at e'; cases e'; exact hns)
        ⟨fun _ _ _ he => (by cases he), fun _ _ _ _ _ _ he => (by cases he; exact ⟨_, _, _, _, rfl, Nat.le_refl _, fun _ => ⟨Nat.le_refl _, hph.symm⟩⟩)⟩ (fun c' t' e' => by cases e'; exact .inr ⟨_, hph⟩) rfl rfl rfl (by simp) (fun k _ hne => setRow_other w c k _ (hne c tot hph))
      have hkept := hT.kept hr.slt
      refine ⟨_, _, _, .skip, _, _, ?_, .inr ⟨rfl, rfl⟩, hK, rfl, hT.rel hr fun q hq => ?_, ?_⟩
      · simp [execOp, ho, hv, hrun]
      · rw [lookB_up] at hq
        simp only [hl, Option.isSome_some, and_self, if_true, Option.some.injEq] at hq
        subst hq
        refine ⟨fun e => by simp [phUp] at e, fun c' t' e' => ?_⟩
        simp only [phUp, if_true, Option.some.injEq, Prod.mk.injEq] at e'
        obtain ⟨rfl, rfl⟩ := e'
        refine ⟨fun _ => hns, fun h => (by cases h), htot, hntot, _, ty, lo, hi, setRow_heap w c ⟨vs⟩ _ ty (lo, hi) hheap, ?_, ⟨hfz, ?_⟩, fun j hj => ?_⟩
        · simp; omega
        · intro y hy
          simp only [List.mem_append] at hy
          rcases hy with (hy | hy) | hy
          · exact h1c y (List.mem_of_mem_take hy)
          · exact h1u y hy
          · exact h1c y (List.mem_of_mem_drop hy)
        · by_cases hji : j = i
          · subst hji
            refine ⟨z, ?_, ?_⟩
            · rw [splice_seg (by omega) (by omega)]
              exact hcz
            · simp only [if_true]
              have hd' : cl d' = true := wr_cl hcl hw hry
              exact cl_rep (H := s.h) (φ := φ) d' z (RepV.mono (HpExt.refl _ _) hkept (fun _ h => h) _ _ hrz) hd'
          · obtain ⟨y', g1, g2⟩ := hels j hj
            refine ⟨y', ?_, ?_⟩
            · rw [splice_other (by omega) ?_]
              · exact g1
              · rcases Nat.lt_or_gt_of_ne hji with h | h
                · left
                  calc j * sz + sz = (j + 1) * sz := by rw [Nat.add_mul]; omega
                    _ ≤ i * sz := Nat.mul_le_mul_right _ h
                    _ ≤ i * sz + fo := by omega
                · right
                  calc i * sz + fo + us.length ≤ i * sz + sz := by omega
                    _ = (i + 1) * sz := by rw [Nat.add_mul]; omega
                    _ ≤ j * sz := Nat.mul_le_mul_right _ h
            · simp only [if_neg hji]
              exact Rep0.mono hkept (fun _ h => h) _ _ g2
      · exact RepV.mono hT.hpext hkept (fun _ h => h) _ _ hun
    · exact h.elim
  · exact h.elim
end

end Go.Proofs.YtpobbfhdkbnpmaaDoor.Lv
