/- The abstract machine: the model's reading operations come to what the abstract ones say. -/
import Derived.Test.YtpobbfhdkbnpmaaDoorLvb
set_option linter.unusedVariables false
set_option linter.unusedSimpArgs false
namespace Go.Proofs.YtpobbfhdkbnpmaaDoor.Lv
open Go Go.RowKit

theorem ti_of {E : Ctx} {t : Nat} (h : (E.tt t).k ≠ .bad) : ∃ i d, E.P.info? t = some i ∧ E.P.underlying t = some d ∧ E.tt t = ⟨agOf d, i.size, i.bytes, tkOf d, i.zero.isSome, (i.zero.map ofVal).getD .unk, agOf d && eqOk E.P t d⟩ := by
  rw [E.htt] at h ⊢
  unfold tiOf at h ⊢
  cases h1 : E.P.info? t with
  | none => rw [h1] at h; exact absurd rfl h
  | some i =>
    cases h2 : E.P.underlying t with
    | none => rw [h1, h2] at h; exact absurd rfl h
    | some d => exact ⟨i, d, rfl, rfl, rfl⟩

section
variable {P : Program} {w : World}
theorem run_und {t : Nat} {d : TypeDesc} (h : P.underlying t = some d) : (underlying t).run P w = .ok d w := by simp [underlying, h]
theorem run_info {t : Nat} {i : TypeInfo} (h : P.info? t = some i) : (typeInfo t).run P w = .ok i w := by simp [typeInfo, h]
theorem run_size {t : Nat} {i : TypeInfo} (h : P.info? t = some i) : (sizeOf t).run P w = .ok i.size w := by simp [sizeOf, run_info h]
theorem run_agg {t : Nat} {d : TypeDesc} (h : P.underlying t = some d) : (isAgg t).run P w = .ok (agOf d) w := by
  unfold isAgg
  simp only [Sem.run_bind, run_und h, Result.andThen_ok]
  cases d <;> rfl
theorem add_at (b o n : Nat) : (⟨b, o, none⟩ : Addr).add n = ⟨b, o + n, none⟩ := by
  unfold Addr.add
  split <;> simp_all
theorem run_cells {b o n : Nat} {vs : List Value} (h : At w b o vs) (hl : vs.length = n) : (loadCells ⟨b, o, none⟩ n).run P w = .ok ⟨vs⟩ w := by
  subst hl
  exact run_loadCells_list w _ _ fun j v hj => by rw [add_at]; exact (h j v hj).1
theorem run_lv {t b o : Nat} {i : TypeInfo} {d : TypeDesc} {vs : List Value} (hi : P.info? t = some i) (hu : P.underlying t = some d) (h : At w b o vs) (hl : vs.length = i.size) (h1 : agOf d = false → i.size = 1) :
    ∃ x, (loadVar t ⟨b, o, none⟩).run P w = .ok x w ∧ Cells (agOf d) x vs := by
  unfold loadVar
  simp only [Sem.run_bind, run_agg hu, Result.andThen_ok]
  cases ha : agOf d with
  | true =>
    simp only [if_true, Sem.run_bind, run_size hi, Result.andThen_ok, run_cells h hl, Sem.run_pure]
    exact ⟨_, rfl, rfl⟩
  | false =>
    obtain ⟨x, rfl⟩ : ∃ x, vs = [x] := by
      match vs, hl.trans (h1 ha) with
      | [x], _ => exact ⟨x, rfl⟩
    have := (h 0 x rfl).1
    simp only [Nat.add_zero] at this
    refine ⟨x, ?_, rfl⟩
    simp [this]
end

section
variable {H : Hp} {φ : Ph} {S : Nat → Prop} {w : World}
theorem RepVs.length : ∀ {ds : List D} {vs : List Value}, RepVs H φ S w ds vs → vs.length = ds.length
  | [], vs, h => by simp only [RepVs] at h; simp [h]
  | d :: ds, vs, h => by
    simp only [RepVs] at h
    obtain ⟨v, vs', rfl, _, h⟩ := h
    simp [RepVs.length h]
theorem RepVs.drop : ∀ {ds : List D} {vs : List Value} (n : Nat), RepVs H φ S w ds vs → RepVs H φ S w (ds.drop n) (vs.drop n)
  | ds, vs, 0, h => by simpa using h
  | [], vs, n + 1, h => by simp only [RepVs] at h; simp [h, RepVs]
  | d :: ds, vs, n + 1, h => by
    simp only [RepVs] at h
    obtain ⟨v, vs', rfl, _, h⟩ := h
    simpa using RepVs.drop n h
theorem RepVs.take : ∀ {ds : List D} {vs : List Value} (n : Nat), RepVs H φ S w ds vs → RepVs H φ S w (ds.take n) (vs.take n)
  | ds, vs, 0, h => by simp [RepVs]
  | [], vs, n + 1, h => by simp only [RepVs] at h; simp [h, RepVs]
  | d :: ds, vs, n + 1, h => by
    simp only [RepVs] at h
    obtain ⟨v, vs', rfl, h1, h⟩ := h
    simp only [List.take_succ_cons, RepVs]
    exact ⟨v, _, rfl, h1, RepVs.take n h⟩
theorem RepVs.append : ∀ {ds es : List D} {vs us : List Value}, RepVs H φ S w ds vs → RepVs H φ S w es us → RepVs H φ S w (ds ++ es) (vs ++ us)
  | [], es, vs, us, h, h2 => by simp only [RepVs] at h; simpa [h] using h2
  | d :: ds, es, vs, us, h, h2 => by
    simp only [RepVs] at h
    obtain ⟨v, vs', rfl, h1, h⟩ := h
    exact ⟨v, vs' ++ us, rfl, h1, RepVs.append h h2⟩
theorem RepVs.get : ∀ {ds : List D} {vs : List Value} (n : Nat) {d : D}, RepVs H φ S w ds vs → ds[n]? = some d → ∃ v, vs[n]? = some v ∧ RepV H φ S w d v
  | [], vs, n, d, h, e => by simp at e
  | d :: ds, vs, 0, d', h, e => by
    simp only [RepVs] at h
    obtain ⟨v, vs', rfl, h1, h⟩ := h
    simp only [List.getElem?_cons_zero, Option.some.injEq] at e ⊢
    exact ⟨v, rfl, e ▸ h1⟩
  | d :: ds, vs, n + 1, d', h, e => by
    simp only [RepVs] at h
    obtain ⟨v, vs', rfl, h1, h⟩ := h
    simpa using RepVs.get n h (by simpa using e)

theorem cells_rep {ag : Bool} {x : Value} {vs : List Value} {d : D} {cs : List D} (hc : Cells ag x vs) (hr : RepV H φ S w d x) (h : cellsOf ag d = some cs) : RepVs H φ S w cs vs := by
  unfold cellsOf at h
  cases ag with
  | true =>
    simp only [if_true] at h
    cases d <;> simp only [asAgg, Option.some.injEq, reduceCtorEq] at h
    subst h
    simp only [RepV] at hr
    obtain ⟨us, rfl, hr⟩ := hr
    simp only [Cells, if_true, Value.agg.injEq, Array.mk.injEq] at hc
    exact hc ▸ hr
  | false =>
    simp only [Bool.false_eq_true, if_false, Option.some.injEq] at h
    subst h
    simp only [Cells, Bool.false_eq_true, if_false] at hc
    exact ⟨x, [], hc, hr, rfl⟩

/-- Out of a whole's cells: a part. -/
theorem part_rep {ag : Bool} {off n : Nat} {cs : List D} {vs : List Value} {d : D} (h : RepVs H φ S w cs vs) (hp : part ag off n cs = some d) (h1 : ag = false → n = 1) :
    off + n ≤ vs.length ∧ ∃ x, Cells ag x ((vs.drop off).take n) ∧ RepV H φ S w d x := by
  unfold part at hp
  split at hp
  · rename_i hle
    refine ⟨by rw [h.length]; exact hle, ?_⟩
    simp only [Option.some.injEq] at hp
    subst hp
    cases ag with
    | true =>
      refine ⟨.agg ⟨(vs.drop off).take n⟩, rfl, ?_⟩
      simp only [if_true, RepV]
      exact ⟨_, rfl, (h.drop off).take n⟩
    | false =>
      obtain rfl := h1 rfl
      have hlt : off < cs.length := by omega
      obtain ⟨v, hv, hr⟩ := h.get off (d := cs.getD off .unk) (by simp [List.getD, List.getElem?_eq_getElem hlt])
      refine ⟨v, ?_, by simpa using hr⟩
      simp only [Cells, Bool.false_eq_true, if_false]
      have : off < vs.length := by rw [h.length]; exact hlt
      rw [List.getElem?_eq_getElem this] at hv
      simp only [Option.some.injEq] at hv
      rw [List.drop_eq_getElem_cons this, hv]
      simp
  · cases hp

theorem rd_rep {ag ag' : Bool} {n sz off : Nat} {d d' : D} {x : Value} {vs : List Value} (hl : vs.length = sz) (hc : Cells ag' x vs) (hr : RepV H φ S w d x) (h : rd ag n ag' sz d off = some d') :
    off + n ≤ vs.length ∧ (ag = false → n = 1) ∧ ∃ y, Cells ag y ((vs.drop off).take n) ∧ RepV H φ S w d' y := by
  unfold rd at h
  split at h
  · rename_i hw
    simp only [Bool.and_eq_true, beq_iff_eq] at hw
    obtain ⟨⟨⟨rfl, rfl⟩, rfl⟩, rfl⟩ := hw
    simp only [Option.some.injEq] at h
    subst h
    refine ⟨by omega, by simp, x, ?_, hr⟩
    simp only [List.drop_zero]
    rw [List.take_of_length_le (by omega)]
    exact hc
  · split at h
    · rename_i h1
      have h1' : ag = false → n = 1 := fun e => by simpa [e] using h1
      cases hcs : cellsOf ag' d with
      | none => rw [hcs] at h; cases h
      | some cs =>
        rw [hcs] at h
        obtain ⟨p1, p2⟩ := part_rep (cells_rep hc hr hcs) h h1'
        exact ⟨p1, h1', p2⟩
    · cases h

theorem At.part {b o : Nat} {vs : List Value} (h : At w b o vs) (off n : Nat) : At w b (o + off) ((vs.drop off).take n) := fun j x hj => by
  have h2 : vs[off + j]? = some x := by
    rw [List.getElem?_take] at hj
    split at hj
    · rwa [List.getElem?_drop] at hj
    · cases hj
  have := h (off + j) x h2
  rwa [← Nat.add_assoc] at this
theorem At.of_heap {c : Nat} {vs : List Value} {e : TypeId} {fr : Nat × Nat} (h : w.heap[c]? = some (.cells ⟨vs⟩ e fr)) (h1 : ∀ y ∈ vs, y.oneCell' = true) : At w c 0 vs := fun j x hj => by
  refine ⟨?_, h1 x (List.mem_of_getElem? hj)⟩
  simp only [World.cell?, h]
  simpa using hj
end

/-- A load. -/
theorem ldd_sound {E : Ctx} {H : Hp} {φ : Ph} {S : Nat → Prop} {w : World} (hp : HpAt H φ S w) {t : Nat} (ht : (E.tt t).k ≠ .bad) {p : D} {v : Value} (hr : RepV H φ S w p v) {d : D}
    (h : ldd H (E.tt t).ag (E.tt t).sz p = some d) : ∃ x, (Instr.loadAt t v).run E.P w = .ok x w ∧ RepV H φ S w d x := by
  obtain ⟨i, ds, hi, hu, he⟩ := ti_of ht
  rw [he] at h
  simp only at h
  have fin : ∀ {b o : Nat} {us : List Value} {y : Value}, At w b o us → us.length = i.size → (agOf ds = false → i.size = 1) → v = .pointer (some ⟨b, o, none⟩) → Cells (agOf ds) y us → RepV H φ S w d y →
      ∃ x, (Instr.loadAt t v).run E.P w = .ok x w ∧ RepV H φ S w d x := by
    intro b o us y h1 h2 h3 h4 h5 h6
    subst h4
    obtain ⟨x, hx, hc⟩ := run_lv hi hu h1 h2 h3
    refine ⟨x, by simpa [Instr.loadAt, Instr.sureAddr] using hx, ?_⟩
    have : x = y := by
      unfold Cells at hc h5
      cases ha : agOf ds <;> rw [ha] at hc h5 <;> simp_all
    exact this ▸ h6
  unfold ldd at h
  split at h
  · rename_i b off
    simp only [RepV] at hr
    obtain ⟨ag', sz, d0, c, tt, hl, hph, hv⟩ := hr
    rw [hl] at h
    simp only at h
    obtain ⟨c', t', hph', hns, x, vs, e, lo, hi', hheap, hlen, ⟨_, h1c⟩, hcells, hrep⟩ := hp.blk b _ hl
    rw [hph] at hph'
    simp only [Option.some.injEq, Prod.mk.injEq] at hph'
    obtain ⟨rfl, rfl⟩ := hph'
    obtain ⟨h1, h2, y, h3, h4⟩ := rd_rep hlen hcells hrep h
    exact fin (b := c) (o := off) (by simpa using (At.of_heap hheap h1c).part off i.size) (by simp; omega) h2 hv h3 h4
  · rename_i b ver j fo
    simp only [RepV] at hr
    obtain ⟨fz, ver', ag', sz, m, f, hl, hv, hr⟩ := hr
    rw [hl] at h
    simp only at h
    split at h
    · rename_i hver
      obtain ⟨hj, c, tt, hph, hv⟩ := hr hver
      obtain ⟨_, _, htot, hn, vs, e, lo, hi', hheap, hlen, ⟨_, h1c⟩, hels⟩ := (hp.blk b _ hl).2 c tt hph
      obtain ⟨x, hcells, hrep⟩ := hels j hj
      have hle : j * sz + sz ≤ vs.length := by
        rw [hlen]
        calc j * sz + sz = (j + 1) * sz := by rw [Nat.add_mul]; omega
          _ ≤ tt * sz := Nat.mul_le_mul_right _ (by omega)
      obtain ⟨h1, h2, y, h3, h4⟩ := rd_rep (by simp; omega) hcells (Rep0.toV _ _ hrep) h
      have hat := ((At.of_heap hheap h1c).part (j * sz) sz).part fo i.size
      refine fin (b := c) (o := j * sz + fo) (by simpa using hat) ?_ h2 hv h3 h4
      rw [List.length_take, List.length_drop]
      simp only [List.length_take, List.length_drop] at h1
      simp only [List.length_take, List.length_drop]
      omega
    · cases h
  · rename_i ag' sz d0 fo
    simp only [RepV, Rep0] at hr
    obtain ⟨b, o, x, vs, hv, hb, hlen, hat, hcells, hrep⟩ := hr
    obtain ⟨h1, h2, y, h3, h4⟩ := rd_rep hlen hcells (Rep0.toV _ _ hrep) h
    refine fin (b := b) (o := o + fo) (hat.part fo i.size) (by simp; omega) h2 hv h3 h4
  · cases h

end Go.Proofs.YtpobbfhdkbnpmaaDoor.Lv
