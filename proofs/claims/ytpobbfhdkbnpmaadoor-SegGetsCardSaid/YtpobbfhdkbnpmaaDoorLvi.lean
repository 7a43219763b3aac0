/- The abstract machine: slices that are made; values that are built. -/
import Derived.Test.YtpobbfhdkbnpmaaDoorLvh
import Derived.Great.BuildSlice
set_option linter.unusedVariables false
set_option linter.unusedSimpArgs false
namespace Go.Proofs.YtpobbfhdkbnpmaaDoor.Lv
open Go Go.RowKit

theorem fold_set (off : Nat) : ∀ (us : List Value) (k : Nat) (cs : List Value), off + k + us.length ≤ cs.length →
    (us.zipIdx k).foldl (fun (r : Array Value) (x : Value × Nat) => r.setIfInBounds (off + x.2) x.1) ⟨cs⟩ = ⟨cs.take (off + k) ++ us ++ cs.drop (off + k + us.length)⟩
  | [], k, cs, _ => by simp
  | u :: us, k, cs, h => by
    simp only [List.length_cons] at h
    simp only [List.zipIdx_cons, List.foldl_cons]
    have e1 : (⟨cs⟩ : Array Value).setIfInBounds (off + k) u = ⟨cs.set (off + k) u⟩ := by simp
    rw [e1, fold_set off us (k + 1) (cs.set (off + k) u) (by simp; omega)]
    congr 1
    have e := list_seg_step cs (off + k) u us (by omega)
    simp only [List.length_cons]
    simpa [Nat.add_assoc] using e
theorem fill_cons (place : Nat → Option (Nat × Nat)) {i off sz : Nat} (hp : place i = some (off, sz)) {v : Value} {us cs : List Value} (hv : v.cells = ⟨us⟩) (hl : us.length = sz) (hle : off + us.length ≤ cs.length) (rest : List (Nat × Value)) :
    Instr.fill place ⟨cs⟩ ((i, v) :: rest) = Instr.fill place ⟨cs.take off ++ us ++ cs.drop (off + us.length)⟩ rest := by
  have hf := fold_set off us 0 cs (by omega)
  simp only [Nat.add_zero] at hf
  have h1 : (⟨us⟩ : Array Value).zipIdx = ⟨us.zipIdx⟩ := by simp
  simp only [Instr.fill, hp, hv]
  rw [if_neg (by simp; omega)]
  congr 1
  rw [h1, ← hf]
  simp

theorem fill_row (sz : Nat) : ∀ (l : List Value) (k : Nat) (cs : List Value), (∀ v ∈ l, ∃ us, v.cells = ⟨us⟩ ∧ us.length = sz) → (k + l.length) * sz ≤ cs.length →
    ∃ cs', Instr.fill (fun i => some (i * sz, sz)) ⟨cs⟩ ((List.range' k l.length).zip l) = some ⟨cs'⟩ ∧ cs'.length = cs.length ∧
      (∀ (j : Nat) (v : Value), l[j]? = some v → v.cells = ⟨(cs'.drop ((k + j) * sz)).take sz⟩) ∧ (∀ j, j < k → (cs'.drop (j * sz)).take sz = (cs.drop (j * sz)).take sz) ∧ (∀ y ∈ cs', y ∈ cs ∨ ∃ v ∈ l, y ∈ v.cells.toList)
  | [], k, cs, _, _ => ⟨cs, by simp [Instr.fill], rfl, by simp, fun _ _ => rfl, fun y h => .inl h⟩
  | v :: l, k, cs, h, hle => by
    obtain ⟨us, hv, hu⟩ := h v (by simp)
    simp only [List.length_cons] at hle
    have e1 : (k + (l.length + 1)) * sz = k * sz + sz + l.length * sz := by rw [Nat.add_mul, Nat.add_mul]; omega
    have hk : k * sz + us.length ≤ cs.length := by rw [hu]; omega
    have hlen : (cs.take (k * sz) ++ us ++ cs.drop (k * sz + us.length)).length = cs.length := by simp; omega
    have e2 : (k + 1 + l.length) * sz = k * sz + sz + l.length * sz := by rw [Nat.add_mul, Nat.add_mul]; omega
    obtain ⟨cs', g1, g2, g3, g4, g5⟩ := fill_row sz l (k + 1) (cs.take (k * sz) ++ us ++ cs.drop (k * sz + us.length)) (fun v hv => h v (by simp [hv])) (by rw [hlen]; omega)
    refine ⟨cs', ?_, g2.trans hlen, ?_, ?_, ?_⟩
    · simp only [List.length_cons, List.range'_succ, List.zip_cons_cons]
      rw [fill_cons _ rfl hv hu hk]
      exact g1
    · intro j x hj
      cases j with
      | zero =>
        simp only [List.getElem?_cons_zero, Option.some.injEq] at hj
        subst hj
        rw [Nat.add_zero, g4 k (by omega), hv]
        congr 1
        have := splice_seg (vs := cs) (us := us) (q := k * sz) (sz := sz) (fo := 0) (by omega) (by omega)
        simp only [Nat.add_zero, List.take_zero, List.nil_append, Nat.zero_add] at this
        rw [this, List.drop_of_length_le (by simp; omega)]
        simp
      | succ j =>
        simp only [List.getElem?_cons_succ] at hj
        rw [g3 j x hj]
        congr 4
        omega
    · intro j hj
      rw [g4 j (by omega)]
      refine splice_other hk (.inl ?_)
      calc j * sz + sz = (j + 1) * sz := by rw [Nat.add_mul]; omega
        _ ≤ k * sz := Nat.mul_le_mul_right _ hj
    · intro y hy
      rcases g5 y hy with hy | ⟨x, hx, hy⟩
      · simp only [List.mem_append] at hy
        rcases hy with (hy | hy) | hy
        · exact .inl (List.mem_of_mem_take hy)
        · exact .inr ⟨v, by simp, by rw [hv]; exact hy⟩
        · exact .inl (List.mem_of_mem_drop hy)
      · exact .inr ⟨x, by simp [hx], hy⟩

section
variable {E : Ctx} {B : Base} {s : St} {φ : Ph} {S : Nat → Prop} {a : Act} {w : World}

/-- A new row. -/
theorem row_new' (hr : Rel B s φ S a w) {w1 : World} {vs : List Value} {ty : TypeId} {lo hi tot n sz : Nat} {ag : Bool} {f : Nat → D}
    (hold : ∀ k, k < w.heap.size → w1.heap[k]? = w.heap[k]?) (hnew : w1.heap[w.heap.size]? = some (.cells ⟨vs⟩ ty (lo, hi))) (hsz : w.heap.size < w1.heap.size) (h1 : w1.os = w.os) (h2 : w1.tape = w.tape) (h3 : w1.output = w.output)
    (hl : vs.length = tot * sz) (ht : tot ≤ 9223372036854775807) (hn : n ≤ tot) (hf : ∀ o, o < tot * sz → ¬ (lo ≤ o ∧ o < hi)) (hc : ∀ y ∈ vs, y.oneCell' = true)
    (hel : ∀ i, i < n → ∃ x, Cells ag x ((vs.drop (i * sz)).take sz) ∧ Rep0 S w (f i) x) :
    ∃ φ', Rel B ⟨s.e, (s.nx, .row false 0 ag sz n f) :: s.h, s.nx + 1⟩ φ' S a w1 ∧ RepV ((s.nx, .row false 0 ag sz n f) :: s.h) φ' S w1 (.sl s.nx 0 0 n) (.slice (some ⟨w.heap.size, 0, none⟩) n tot) := by
  have hT := turn_new hr (.row false 0 ag sz n f) (some (w.heap.size, tot)) (fun c t e => by cases e; rfl) (w1 := w1) h1 h2 h3 (Nat.le_of_lt hsz) hold (fun _ => hsz)
  have hk := hT.kept hr.slt
  refine ⟨_, hT.rel hr fun x hx => ?_, ?_⟩
  · simp only [lookB, if_true, Option.some.injEq] at hx
    subst hx
    refine ⟨fun e => by simp [phUp] at e, fun c t e => ?_⟩
    simp only [phUp, if_true, Option.some.injEq, Prod.mk.injEq] at e
    obtain ⟨rfl, rfl⟩ := e
    refine ⟨fun _ h => Nat.lt_irrefl _ (hr.slt _ h), fun h => (by cases h), ht, hn, vs, ty, lo, hi, hnew, hl, ⟨hf, hc⟩, fun i hi => ?_⟩
    obtain ⟨x, g1, g2⟩ := hel i hi
    exact ⟨x, g1, Rep0.mono hk (fun _ h => h) _ _ g2⟩
  · simp only [RepV]
    refine ⟨false, 0, ag, sz, n, f, by simp [lookB], Nat.le_refl _, fun _ => ⟨by omega, _, _, rfl, hn, fun e => by simp [phUp] at e, fun c t e => ?_⟩⟩
    simp only [phUp, if_true, Option.some.injEq, Prod.mk.injEq] at e
    obtain ⟨rfl, rfl⟩ := e
    simp

theorem row_new (hr : Rel B s φ S a w) {w1 : World} {vs : List Value} {ty : TypeId} {lo hi tot n sz : Nat} {ag : Bool} {f : Nat → D}
    (hw : w1.heap = w.heap.push (.cells ⟨vs⟩ ty (lo, hi))) (h1 : w1.os = w.os) (h2 : w1.tape = w.tape) (h3 : w1.output = w.output)
    (hl : vs.length = tot * sz) (ht : tot ≤ 9223372036854775807) (hn : n ≤ tot) (hf : ∀ o, o < tot * sz → ¬ (lo ≤ o ∧ o < hi)) (hc : ∀ y ∈ vs, y.oneCell' = true)
    (hel : ∀ i, i < n → ∃ x, Cells ag x ((vs.drop (i * sz)).take sz) ∧ Rep0 S w (f i) x) :
    ∃ φ', Rel B ⟨s.e, (s.nx, .row false 0 ag sz n f) :: s.h, s.nx + 1⟩ φ' S a w1 ∧ RepV ((s.nx, .row false 0 ag sz n f) :: s.h) φ' S w1 (.sl s.nx 0 0 n) (.slice (some ⟨w.heap.size, 0, none⟩) n tot) :=
  row_new' (ty := ty) (lo := lo) (hi := hi) hr (fun k hk => by rw [hw, Array.getElem?_push, if_neg (by omega)]) (by rw [hw]; simp) (by rw [hw]; simp) h1 h2 h3 hl ht hn hf hc hel

theorem hz_zero {t : Nat} (hk : (E.tt t).k ≠ .bad) (hz : (E.tt t).hz = true) : ∃ i d z, E.P.info? t = some i ∧ E.P.underlying t = some d ∧ i.zero = some z ∧ (E.tt t).zero = ofVal z ∧ (E.tt t).ag = agOf d ∧ (E.tt t).sz = i.size ∧ (E.tt t).bytes = i.bytes := by
  obtain ⟨i, d, h1, h2, h3⟩ := ti_of hk
  have hz' : i.zero.isSome = true := by rw [h3] at hz; exact hz
  obtain ⟨z, hz'⟩ := Option.isSome_iff_exists.1 hz'
  exact ⟨i, d, z, h1, h2, hz', by rw [h3]; simp [hz'], by rw [h3], by rw [h3], by rw [h3]⟩

theorem made_seg (z : List Value) (n i : Nat) (hi : i < n) (hz : z ≠ []) : ((madeCells ⟨z⟩ (n * z.length)).toList.drop (i * z.length)).take z.length = z := by
  have hpos : 0 < z.length := List.length_pos_iff.2 hz
  have hle : i * z.length + z.length ≤ n * z.length := by
    calc i * z.length + z.length = (i + 1) * z.length := by rw [Nat.add_mul]; omega
      _ ≤ n * z.length := Nat.mul_le_mul_right _ hi
  apply List.ext_getElem?
  intro k
  rw [List.getElem?_take]
  by_cases hk : k < z.length
  · rw [if_pos hk, List.getElem?_drop]
    have hlt : i * z.length + k < n * z.length := by omega
    have hmod : (i * z.length + k) % z.length = k := by rw [Nat.add_comm, Nat.add_mul_mod_self_right, Nat.mod_eq_of_lt hk]
    simp only [madeCells, Array.toList_map, Array.toList_range, List.getElem?_map, List.getElem?_range hlt, Option.map_some, hmod]
    simp [hk, Nat.mod_eq_of_lt hk]
  · rw [if_neg hk, List.getElem?_eq_none (by omega)]
theorem made_one (z : List Value) (n : Nat) (h : ∀ y ∈ z, y.oneCell' = true) (hz : z ≠ []) : ∀ y ∈ (madeCells ⟨z⟩ n).toList, y.oneCell' = true := by
  intro y hy
  have hpos : 0 < z.length := List.length_pos_iff.2 hz
  simp only [madeCells, Array.toList_map, Array.toList_range, List.mem_map, List.mem_range] at hy
  obtain ⟨k, _, rfl⟩ := hy
  have hlt : k % z.length < z.length := Nat.mod_lt _ hpos
  apply h
  simp [hlt]

theorem make_sound (hr : Rel B s φ S a w) (hev : ∀ x, RepV s.h φ S w (ev E s x) (a.eval x)) {o : Oper} {t : Nat} {l c : Operand} (ho : o.op = .makeSlice t l c) {K : D → St → Prop} (h : ef E s o.op K) : Goes E B s S a w o K := by
  rw [ho] at h
  simp only [ef] at h
  have hl := hev l
  have hc := hev c
  split at h
  · rename_i e k n k' n' hk e1 e2
    obtain ⟨hz, hkb, hch, hs0, rfl, h0, h63, hby, hK⟩ := h
    rw [e1] at hl
    rw [e2] at hc
    simp only [RepV, Rep0] at hl hc
    obtain ⟨i, d, z, hi, hu, hzz, hzd, hag, hsz, hb⟩ := hz_zero hkb hz
    have hrep : RepV ([] : Hp) φ S w (E.tt e).zero z := by rw [hzd]; exact Rep0.toV _ _ (ofVal_rep z)
    obtain ⟨us, hcu, hcells, hul, h1u⟩ := chk_cells hrep hch
    have hus : us ≠ [] := fun e => by rw [e] at hul; exact hs0 hul.symm
    have hrun := run_make (P := E.P) w t e i z (und_slc hk) hi hzz k k' n n h0 (Int.le_refl _) (by rw [← hb, Int.mul_comm]; exact hby) h63
    rw [hcu, ← hsz, ← hul] at hrun
    obtain ⟨φ', g1, g2⟩ := row_new hr (w1 := w.alloc (.cells (madeCells ⟨us⟩ (n.toNat * us.length)) e)) (vs := (madeCells ⟨us⟩ (n.toNat * us.length)).toList) (ty := e) (lo := 0) (hi := 0) (tot := n.toNat) (n := n.toNat)
      (sz := (E.tt e).sz) (ag := (E.tt e).ag) (f := fun _ => (E.tt e).zero) rfl rfl rfl rfl (by simp [size_madeCells, hul]) (by omega) (Nat.le_refl _) (by simp) (made_one us _ h1u hus)
      (fun i hi => ⟨z, by rw [← hul, made_seg us n.toNat i hi hus]; exact hcells, by rw [hzd]; exact ofVal_rep z⟩)
    refine ⟨_, _, φ', .value _, _, _, ?_, .inl rfl, hK, rfl, g1, g2⟩
    simp [execOp, ho, hl, hc, hrun]
  · exact h.elim

theorem bslice_sound (hr : Rel B s φ S a w) (hev : ∀ x, RepV s.h φ S w (ev E s x) (a.eval x)) {o : Oper} {t n : Nat} {ps : List (Nat × Operand)} (ho : o.op = .buildSlice t n ⟨ps⟩) {K : D → St → Prop} (h : ef E s o.op K) : Goes E B s S a w o K := by
  rw [ho] at h
  simp only [ef] at h
  split at h
  · rename_i e hk
    obtain ⟨hkb, hz, hzch, hs0, hsm, hix, hall, hK⟩ := h
    obtain ⟨i, d, z, hi, hu, hzz, hzd, hag, hsz, hb⟩ := hz_zero hkb hz
    have hrep : RepV ([] : Hp) φ S w (E.tt e).zero z := by rw [hzd]; exact Rep0.toV _ _ (ofVal_rep z)
    obtain ⟨zs, hzcu, _, hzl, hz1⟩ := chk_cells hrep hzch
    have hzne : zs ≠ [] := fun e => by rw [e] at hzl; exact hs0 hzl.symm
    have hpl : ps.length = n := by have := congrArg List.length hix; simpa using this
    have hzip : (List.range' 0 (ps.map fun p => a.eval p.2).length).zip (ps.map fun p => a.eval p.2) = ps.map fun p => (p.1, a.eval p.2) := by
      rw [List.length_map, hpl, ← List.range_eq_range', ← hix, List.zip_map']
    have hch : ∀ p ∈ ps, chk s.h (E.tt e).ag (E.tt e).sz (ev E s p.2) = true ∧ cl (ev E s p.2) = true := fun p hp => by
      have := List.all_eq_true.1 hall p hp
      simpa using this
    have hzc : (madeCells z.cells (n * (E.tt e).sz)).toList.length = n * (E.tt e).sz := by simp [size_madeCells]
    obtain ⟨cs', g1, g2, g3, _, g5⟩ := fill_row (E.tt e).sz (ps.map fun p => a.eval p.2) 0 (madeCells z.cells (n * (E.tt e).sz)).toList (fun v hv => by
      obtain ⟨p, hp, rfl⟩ := List.mem_map.1 hv
      obtain ⟨us, q1, q2, q3, q4⟩ := chk_cells (hev p.2) (hch p hp).1
      exact ⟨us, q1, q3⟩) (by rw [hzc]; simp [hpl])
    rw [hzip] at g1
    have hone : ∀ y ∈ cs', y.oneCell' = true := by
      intro y hy
      rcases g5 y hy with hy | ⟨v, hv, hy⟩
      · rw [hzcu] at hy
        exact made_one zs _ hz1 hzne y hy
      · obtain ⟨p, hp, rfl⟩ := List.mem_map.1 hv
        obtain ⟨us, q1, q2, q3, q4⟩ := chk_cells (hev p.2) (hch p hp).1
        rw [q1] at hy
        exact q4 y hy
    have hn63 : n ≤ 16777216 := by
      have : n * 1 ≤ n * (E.tt e).sz := Nat.mul_le_mul_left _ (by omega)
      omega
    obtain ⟨φ', r1, r2⟩ := row_new hr (w1 := w.alloc (.cells ⟨cs'⟩ e)) (vs := cs') (ty := e) (lo := 0) (hi := 0) (tot := n) (n := n)
      (sz := (E.tt e).sz) (ag := (E.tt e).ag) (f := fun i => (ps.map fun p => ev E s p.2).getD i .unk) rfl rfl rfl rfl (by rw [g2, hzc]) (by omega) (Nat.le_refl _) (by simp) hone
      (fun i hi => by
        have hip : i < ps.length := by omega
        obtain ⟨us, q1, q2, q3, q4⟩ := chk_cells (hev ps[i].2) (hch ps[i] (List.getElem_mem hip)).1
        have := g3 i (a.eval ps[i].2) (by simp [hip])
        rw [q1, Nat.zero_add] at this
        refine ⟨a.eval ps[i].2, ?_, ?_⟩
        · rw [← (Array.mk.inj this)]; exact q2
        · have : (ps.map fun p => ev E s p.2).getD i .unk = ev E s ps[i].2 := by simp [List.getD, hip]
          rw [this]
          exact cl_rep _ _ (hev _) (hch ps[i] (List.getElem_mem hip)).2)
    refine ⟨_, _, φ', .value _, _, _, ?_, .inl rfl, hK, rfl, r1, r2⟩
    have hps : (⟨ps⟩ : Array (Nat × Operand)).map (fun x => (x.1, a.eval x.2)) = ⟨ps.map fun p => (p.1, a.eval p.2)⟩ := by simp
    by_cases hn0 : n = 0
    · subst hn0
      obtain rfl : ps = [] := List.eq_nil_of_length_eq_zero hpl
      obtain rfl : cs' = [] := List.eq_nil_of_length_eq_zero (by rw [g2, hzc]; simp)
      simp [execOp, ho, Instr.buildSlice, run_und (und_slc hk), run_size hi, Instr.fill, newRow, Array.range_zero']
    · have hrun := run_buildSlice (P := E.P) w t e n ⟨ps.map fun p => (p.1, a.eval p.2)⟩ ⟨cs'⟩ i z (und_slc hk) hi hzz (by rw [← hsz]; omega) (by rw [← hsz]; exact Nat.mul_ne_zero hn0 hs0) (by
        rw [← hsz]
        exact g1)
      simp [execOp, ho, hrun]
  · exact h.elim
end

end Go.Proofs.YtpobbfhdkbnpmaaDoor.Lv
