/- The abstract machine: slices that are made; values that are built. The abstract machine: append; bytes of a string. The abstract machine: bytes of a string, a slice against nil, values that are built; all effects together. The abstract machine: what a callee sees of the caller's blocks, and the other way round. The abstract machine: contracts and calls. The abstract machine: what an operation looks at. The abstract machine: operations that do not see each other change places. -/
import Derived.Test.YtmcinfbckdiaoaaGreatDoorLa
import Derived.Great.BuildSlice
import Derived.Lib.ConvBytes
import Derived.OrdersIn
set_option linter.unusedVariables false
set_option linter.unusedSimpArgs false
namespace Go.Proofs.YtmcinfbckdiaoaaGreatDoor.Lv
open Go Go.RowKit

theorem fold_set (off : Nat) : ∀ (us : List Value) (k : Nat) (cs : List Value), off + k + us.length ≤ cs.length →
    (us.zipIdx k).foldl (fun (r : Array Value) (x : Value × Nat) => r.setIfInBounds (off + x.2) x.1) ⟨cs⟩ = ⟨cs.take (off + k) ++ us ++ cs.drop (off + k + us.length)⟩
  | [], k, cs, _ => by simp
  | u :: us, k, cs, h => by
    simp only [List.length_cons] at h
    simp only [List.zipIdx_cons, List.foldl_cons]
    have e1 : (⟨cs⟩ : Array Value).setIfInBounds (off + k) u = ⟨cs.set (off + k) u⟩ := by simp
    rw [e1, fold_set off us (k + 1) (cs.set (off + k) u) (by simp; omega)]
    congr 1
    have e := list_seg_step cs (off + k) u us (by omega)
    simp only [List.length_cons]
    simpa [Nat.add_assoc] using e
theorem fill_cons (place : Nat → Option (Nat × Nat)) {i off sz : Nat} (hp : place i = some (off, sz)) {v : Value} {us cs : List Value} (hv : v.cells = ⟨us⟩) (hl : us.length = sz) (hle : off + us.length ≤ cs.length) (rest : List (Nat × Value)) :
    Instr.fill place ⟨cs⟩ ((i, v) :: rest) = Instr.fill place ⟨cs.take off ++ us ++ cs.drop (off + us.length)⟩ rest := by
  have hf := fold_set off us 0 cs (by omega)
  simp only [Nat.add_zero] at hf
  have h1 : (⟨us⟩ : Array Value).zipIdx = ⟨us.zipIdx⟩ := by simp
  simp only [Instr.fill, hp, hv]
  rw [if_neg (by simp; omega)]
  congr 1
  rw [h1, ← hf]
  simp

theorem fill_row (sz : Nat) : ∀ (l : List Value) (k : Nat) (cs : List Value), (∀ v ∈ l, ∃ us, v.cells = ⟨us⟩ ∧ us.length = sz) → (k + l.length) * sz ≤ cs.length →
    ∃ cs', Instr.fill (fun i => some (i * sz, sz)) ⟨cs⟩ ((List.range' k l.length).zip l) = some ⟨cs'⟩ ∧ cs'.length = cs.length ∧
      (∀ (j : Nat) (v : Value), l[j]? = some v → v.cells = ⟨(cs'.drop ((k + j) * sz)).take sz⟩) ∧ (∀ j, j < k → (cs'.drop (j * sz)).take sz = (cs.drop (j * sz)).take sz) ∧ (∀ y ∈ cs', y ∈ cs ∨ ∃ v ∈ l, y ∈ v.cells.toList)
  | [], k, cs, _, _ => ⟨cs, by simp [Instr.fill], rfl, by simp, fun _ _ => rfl, fun y h => .inl h⟩
  | v :: l, k, cs, h, hle => by
    obtain ⟨us, hv, hu⟩ := h v (by simp)
    simp only [List.length_cons] at hle
    have e1 : (k + (l.length + 1)) * sz = k * sz + sz + l.length * sz := by rw [Nat.add_mul, Nat.add_mul]; omega
    have hk : k * sz + us.length ≤ cs.length := by rw [hu]; omega
    have hlen : (cs.take (k * sz) ++ us ++ cs.drop (k * sz + us.length)).length = cs.length := by simp; omega
    have e2 : (k + 1 + l.length) * sz = k * sz + sz + l.length * sz := by rw [Nat.add_mul, Nat.add_mul]; omega
    obtain ⟨cs', g1, g2, g3, g4, g5⟩ := fill_row sz l (k + 1) (cs.take (k * sz) ++ us ++ cs.drop (k * sz + us.length)) (fun v hv => h v (by simp [hv])) (by rw [hlen]; omega)
    refine ⟨cs', ?_, g2.trans hlen, ?_, ?_, ?_⟩
    · simp only [List.length_cons, List.range'_succ, List.zip_cons_cons]
      rw [fill_cons _ rfl hv hu hk]
      exact g1
    · intro j x hj
      cases j with
      | zero =>
        simp only [List.getElem?_cons_zero, Option.some.injEq] at hj
        subst hj
        rw [Nat.add_zero, g4 k (by omega), hv]
        congr 1
        have := splice_seg (vs := cs) (us := us) (q := k * sz) (sz := sz) (fo := 0) (by omega) (by omega)
        simp only [Nat.add_zero, List.take_zero, List.nil_append, Nat.zero_add] at this
        rw [this, List.drop_of_length_le (by simp; omega)]
        simp
      | succ j =>
        simp only [List.getElem?_cons_succ] at hj
        rw [g3 j x hj]
        congr 4
        omega
    · intro j hj
      rw [g4 j (by omega)]
      refine splice_other hk (.inl ?_)
      calc j * sz + sz = (j + 1) * sz := by rw [Nat.add_mul]; omega
        _ ≤ k * sz := Nat.mul_le_mul_right _ hj
    · intro y hy
      rcases g5 y hy with hy | ⟨x, hx, hy⟩
      · simp only [List.mem_append] at hy
        rcases hy with (hy | hy) | hy
        · exact .inl (List.mem_of_mem_take hy)
        · exact .inr ⟨v, by simp, by rw [hv]; exact hy⟩
        · exact .inl (List.mem_of_mem_drop hy)
      · exact .inr ⟨x, by simp [hx], hy⟩

section
variable {E : Ctx} {B : Base} {s : St} {φ : Ph} {S : Nat → Prop} {a : Act} {w : World}

/-- A new row. -/
theorem row_new' (hr : Rel B s φ S a w) {w1 : World} {vs : List Value} {ty : TypeId} {lo hi tot n sz : Nat} {ag : Bool} {f : Nat → D}
    (hold : ∀ k, k < w.heap.size → w1.heap[k]? = w.heap[k]?) (hnew : w1.heap[w.heap.size]? = some (.cells ⟨vs⟩ ty (lo, hi))) (hsz : w.heap.size < w1.heap.size) (h1 : w1.os = w.os) (h2 : w1.tape = w.tape) (h3 : w1.output = w.output)
    (hl : vs.length = tot * sz) (ht : tot ≤ 9223372036854775807) (hn : n ≤ tot) (hf : ∀ o, o < tot * sz → ¬ (lo ≤ o ∧ o < hi)) (hc : ∀ y ∈ vs, y.oneCell' = true)
    (hel : ∀ i, i < n → ∃ x, Cells ag x ((vs.drop (i * sz)).take sz) ∧ Rep0 S w (f i) x) :
    ∃ φ', Rel B ⟨s.e, (s.nx, .row false 0 ag sz n f) :: s.h, s.nx + 1⟩ φ' S a w1 ∧ RepV ((s.nx, .row false 0 ag sz n f) :: s.h) φ' S w1 (.sl s.nx 0 0 n) (.slice (some ⟨w.heap.size, 0, none⟩) n tot) := by
  have hT := turn_new hr (.row false 0 ag sz n f) (some (w.heap.size, tot)) (fun c t e => by cases e; rfl) (w1 := w1) h1 h2 h3 (Nat.le_of_lt hsz) hold (fun _ => hsz)
  have hk := hT.kept hr.slt
  refine ⟨_, hT.rel hr fun x hx => ?_, ?_⟩
  · simp only [lookB, if_true, Option.some.injEq] at hx
    subst hx
    refine ⟨fun e => by simp [phUp] at e, fun c t e => ?_⟩
    simp only [phUp, if_true, Option.some.injEq, Prod.mk.injEq] at e
    obtain ⟨rfl, rfl⟩ := e
    refine ⟨fun _ h => Nat.lt_irrefl _ (hr.slt _ h), fun h => (by cases h), ht, hn, vs, ty, lo, hi, hnew, hl, ⟨hf, hc⟩, fun i hi => ?_⟩
    obtain ⟨x, g1, g2⟩ := hel i hi
    exact ⟨x, g1, Rep0.mono hk (fun _ h => h) _ _ g2⟩
  · simp only [RepV]
    refine ⟨false, 0, ag, sz, n, f, by simp [lookB], Nat.le_refl _, fun _ => ⟨by omega, _, _, rfl, hn, fun e => by simp [phUp] at e, fun c t e => ?_⟩⟩
    simp only [phUp, if_true, Option.some.injEq, Prod.mk.injEq] at e
    obtain ⟨rfl, rfl⟩ := e
    simp

theorem row_new (hr : Rel B s φ S a w) {w1 : World} {vs : List Value} {ty : TypeId} {lo hi tot n sz : Nat} {ag : Bool} {f : Nat → D}
    (hw : w1.heap = w.heap.push (.cells ⟨vs⟩ ty (lo, hi))) (h1 : w1.os = w.os) (h2 : w1.tape = w.tape) (h3 : w1.output = w.output)
    (hl : vs.length = tot * sz) (ht : tot ≤ 9223372036854775807) (hn : n ≤ tot) (hf : ∀ o, o < tot * sz → ¬ (lo ≤ o ∧ o < hi)) (hc : ∀ y ∈ vs, y.oneCell' = true)
    (hel : ∀ i, i < n → ∃ x, Cells ag x ((vs.drop (i * sz)).take sz) ∧ Rep0 S w (f i) x) :
    ∃ φ', Rel B ⟨s.e, (s.nx, .row false 0 ag sz n f) :: s.h, s.nx + 1⟩ φ' S a w1 ∧ RepV ((s.nx, .row false 0 ag sz n f) :: s.h) φ' S w1 (.sl s.nx 0 0 n) (.slice (some ⟨w.heap.size, 0, none⟩) n tot) :=
  row_new' (ty := ty) (lo := lo) (hi := hi) hr (fun k hk => by rw [hw, Array.getElem?_push, if_neg (by omega)]) (by rw [hw]; simp) (by rw [hw]; simp) h1 h2 h3 hl ht hn hf hc hel

theorem hz_zero {t : Nat} (hk : (E.tt t).k ≠ .bad) (hz : (E.tt t).hz = true) : ∃ i d z, E.P.info? t = some i ∧ E.P.underlying t = some d ∧ i.zero = some z ∧ (E.tt t).zero = ofVal z ∧ (E.tt t).ag = agOf d ∧ (E.tt t).sz = i.size ∧ (E.tt t).bytes = i.bytes := by
  obtain ⟨i, d, h1, h2, h3⟩ := ti_of hk
  have hz' : i.zero.isSome = true := by rw [h3] at hz; exact hz
  obtain ⟨z, hz'⟩ := Option.isSome_iff_exists.1 hz'
  exact ⟨i, d, z, h1, h2, hz', by rw [h3]; simp [hz'], by rw [h3], by rw [h3], by rw [h3]⟩

theorem made_seg (z : List Value) (n i : Nat) (hi : i < n) (hz : z ≠ []) : ((madeCells ⟨z⟩ (n * z.length)).toList.drop (i * z.length)).take z.length = z := by
  have hpos : 0 < z.length := List.length_pos_iff.2 hz
  have hle : i * z.length + z.length ≤ n * z.length := by
    calc i * z.length + z.length = (i + 1) * z.length := by rw [Nat.add_mul]; omega
      _ ≤ n * z.length := Nat.mul_le_mul_right _ hi
  apply List.ext_getElem?
  intro k
  rw [List.getElem?_take]
  by_cases hk : k < z.length
  · rw [if_pos hk, List.getElem?_drop]
    have hlt : i * z.length + k < n * z.length := by omega
    have hmod : (i * z.length + k) % z.length = k := by rw [Nat.add_comm, Nat.add_mul_mod_self_right, Nat.mod_eq_of_lt hk]
    simp only [madeCells, Array.toList_map, Array.toList_range, List.getElem?_map, List.getElem?_range hlt, Option.map_some, hmod]
    simp [hk, Nat.mod_eq_of_lt hk]
  · rw [if_neg hk, List.getElem?_eq_none (by omega)]
theorem made_one (z : List Value) (n : Nat) (h : ∀ y ∈ z, y.oneCell' = true) (hz : z ≠ []) : ∀ y ∈ (madeCells ⟨z⟩ n).toList, y.oneCell' = true := by
  intro y hy
  have hpos : 0 < z.length := List.length_pos_iff.2 hz
  simp only [madeCells, Array.toList_map, Array.toList_range, List.mem_map, List.mem_range] at hy
  obtain ⟨k, _, rfl⟩ := hy
  have hlt : k % z.length < z.length := Nat.mod_lt _ hpos
  apply h
  simp [hlt]

theorem make_sound (hr : Rel B s φ S a w) (hev : ∀ x, RepV s.h φ S w (ev E s x) (a.eval x)) {o : Oper} {t : Nat} {l c : Operand} (ho : o.op = .makeSlice t l c) {K : D → St → Prop} (h : ef E s o.op K) : Goes E B s S a w o K := by
  rw [ho] at h
  simp only [ef] at h
  have hl := hev l
  have hc := hev c
  split at h
  · rename_i e k n k' n' hk e1 e2
    obtain ⟨hz, hkb, hch, hs0, rfl, h0, h63, hby, hK⟩ := h
    rw [e1] at hl
    rw [e2] at hc
    simp only [RepV, Rep0] at hl hc
    obtain ⟨i, d, z, hi, hu, hzz, hzd, hag, hsz, hb⟩ := hz_zero hkb hz
    have hrep : RepV ([] : Hp) φ S w (E.tt e).zero z := by rw [hzd]; exact Rep0.toV _ _ (ofVal_rep z)
    obtain ⟨us, hcu, hcells, hul, h1u⟩ := chk_cells hrep hch
    have hus : us ≠ [] := fun e => by rw [e] at hul; exact hs0 hul.symm
    have hrun := run_make (P := E.P) w t e i z (und_slc hk) hi hzz k k' n n h0 (Int.le_refl _) (by rw [← hb, Int.mul_comm]; exact hby) h63
    rw [hcu, ← hsz, ← hul] at hrun
    obtain ⟨φ', g1, g2⟩ := row_new hr (w1 := w.alloc (.cells (madeCells ⟨us⟩ (n.toNat * us.length)) e)) (vs := (madeCells ⟨us⟩ (n.toNat * us.length)).toList) (ty := e) (lo := 0) (hi := 0) (tot := n.toNat) (n := n.toNat)
      (sz := (E.tt e).sz) (ag := (E.tt e).ag) (f := fun _ => (E.tt e).zero) rfl rfl rfl rfl (by simp [size_madeCells, hul]) (by omega) (Nat.le_refl _) (by simp) (made_one us _ h1u hus)
      (fun i hi => ⟨z, by rw [← hul, made_seg us n.toNat i hi hus]; exact hcells, by rw [hzd]; exact ofVal_rep z⟩)
    refine ⟨_, _, φ', .value _, _, _, ?_, .inl rfl, hK, rfl, g1, g2⟩
    simp [execOp, ho, hl, hc, hrun]
  · exact h.elim

theorem bslice_sound (hr : Rel B s φ S a w) (hev : ∀ x, RepV s.h φ S w (ev E s x) (a.eval x)) {o : Oper} {t n : Nat} {ps : List (Nat × Operand)} (ho : o.op = .buildSlice t n ⟨ps⟩) {K : D → St → Prop} (h : ef E s o.op K) : Goes E B s S a w o K := by
  rw [ho] at h
  simp only [ef] at h
  split at h
  · rename_i e hk
    obtain ⟨hkb, hz, hzch, hs0, hsm, hix, hall, hK⟩ := h
    obtain ⟨i, d, z, hi, hu, hzz, hzd, hag, hsz, hb⟩ := hz_zero hkb hz
    have hrep : RepV ([] : Hp) φ S w (E.tt e).zero z := by rw [hzd]; exact Rep0.toV _ _ (ofVal_rep z)
    obtain ⟨zs, hzcu, _, hzl, hz1⟩ := chk_cells hrep hzch
    have hzne : zs ≠ [] := fun e => by rw [e] at hzl; exact hs0 hzl.symm
    have hpl : ps.length = n := by have := congrArg List.length hix; simpa using this
    have hzip : (List.range' 0 (ps.map fun p => a.eval p.2).length).zip (ps.map fun p => a.eval p.2) = ps.map fun p => (p.1, a.eval p.2) := by
      rw [List.length_map, hpl, ← List.range_eq_range', ← hix, List.zip_map']
    have hch : ∀ p ∈ ps, chk s.h (E.tt e).ag (E.tt e).sz (ev E s p.2) = true ∧ cl (ev E s p.2) = true := fun p hp => by
      have := List.all_eq_true.1 hall p hp
      simpa using this
    have hzc : (madeCells z.cells (n * (E.tt e).sz)).toList.length = n * (E.tt e).sz := by simp [size_madeCells]
    obtain ⟨cs', g1, g2, g3, _, g5⟩ := fill_row (E.tt e).sz (ps.map fun p => a.eval p.2) 0 (madeCells z.cells (n * (E.tt e).sz)).toList (fun v hv => by
      obtain ⟨p, hp, rfl⟩ := List.mem_map.1 hv
      obtain ⟨us, q1, q2, q3, q4⟩ := chk_cells (hev p.2) (hch p hp).1
      exact ⟨us, q1, q3⟩) (by rw [hzc]; simp [hpl])
    rw [hzip] at g1
    have hone : ∀ y ∈ cs', y.oneCell' = true := by
      intro y hy
      rcases g5 y hy with hy | ⟨v, hv, hy⟩
      · rw [hzcu] at hy
        exact made_one zs _ hz1 hzne y hy
      · obtain ⟨p, hp, rfl⟩ := List.mem_map.1 hv
        obtain ⟨us, q1, q2, q3, q4⟩ := chk_cells (hev p.2) (hch p hp).1
        rw [q1] at hy
        exact q4 y hy
    have hn63 : n ≤ 16777216 := by
      have : n * 1 ≤ n * (E.tt e).sz := Nat.mul_le_mul_left _ (by omega)
      omega
    obtain ⟨φ', r1, r2⟩ := row_new hr (w1 := w.alloc (.cells ⟨cs'⟩ e)) (vs := cs') (ty := e) (lo := 0) (hi := 0) (tot := n) (n := n)
      (sz := (E.tt e).sz) (ag := (E.tt e).ag) (f := fun i => (ps.map fun p => ev E s p.2).getD i .unk) rfl rfl rfl rfl (by rw [g2, hzc]) (by omega) (Nat.le_refl _) (by simp) hone
      (fun i hi => by
        have hip : i < ps.length := by omega
        obtain ⟨us, q1, q2, q3, q4⟩ := chk_cells (hev ps[i].2) (hch ps[i] (List.getElem_mem hip)).1
        have := g3 i (a.eval ps[i].2) (by simp [hip])
        rw [q1, Nat.zero_add] at this
        refine ⟨a.eval ps[i].2, ?_, ?_⟩
        · rw [← (Array.mk.inj this)]; exact q2
        · have : (ps.map fun p => ev E s p.2).getD i .unk = ev E s ps[i].2 := by simp [List.getD, hip]
          rw [this]
          exact cl_rep _ _ (hev _) (hch ps[i] (List.getElem_mem hip)).2)
    refine ⟨_, _, φ', .value _, _, _, ?_, .inl rfl, hK, rfl, r1, r2⟩
    have hps : (⟨ps⟩ : Array (Nat × Operand)).map (fun x => (x.1, a.eval x.2)) = ⟨ps.map fun p => (p.1, a.eval p.2)⟩ := by simp
    by_cases hn0 : n = 0
    · subst hn0
      obtain rfl : ps = [] := List.eq_nil_of_length_eq_zero hpl
      obtain rfl : cs' = [] := List.eq_nil_of_length_eq_zero (by rw [g2, hzc]; simp)
      simp [execOp, ho, Instr.buildSlice, run_und (und_slc hk), run_size hi, Instr.fill, newRow, Array.range_zero']
    · have hrun := run_buildSlice (P := E.P) w t e n ⟨ps.map fun p => (p.1, a.eval p.2)⟩ ⟨cs'⟩ i z (und_slc hk) hi hzz (by rw [← hsz]; omega) (by rw [← hsz]; exact Nat.mul_ne_zero hn0 hs0) (by
        rw [← hsz]
        exact g1)
      simp [execOp, ho, hrun]
  · exact h.elim
end

end Go.Proofs.YtmcinfbckdiaoaaGreatDoor.Lv

set_option linter.unusedVariables false
set_option linter.unusedSimpArgs false
namespace Go.Proofs.YtmcinfbckdiaoaaGreatDoor.Lv
open Go Go.RowKit

section
variable {P : Program} {w : World}
theorem append_room {t u ty e : Nat} {i : TypeInfo} (ht : P.underlying t = some (.slice e)) (hu : (∃ e', P.underlying u = some (.slice e')) ∨ P.underlying u = some .string) (hi : P.info? e = some i) {a : Option Addr} {n cap m : Nat} {y : Value}
    (hy : Builtin.lenOf y = pure m) {news : List Value} (hfc : (Builtin.firstCells i.size m y).run P w = .ok ⟨news⟩ w) (hroom : n + m ≤ cap) {w' : World} (hst : ∀ ad, a = some ad → (storeCells (ad.add (n * i.size)) news).run P w = .ok () w') (hnone : a = none → w' = w) :
    (Builtin.append_ #[t, u] ty #[.slice a n cap, y]).run P w = .ok (.slice a (n + m) cap) w' := by
  rcases hu with ⟨e', hu⟩ | hu
  all_goals
    cases a with
    | none =>
      obtain rfl := hnone rfl
      simp [Builtin.append_, run_und ht, run_und hu, run_size hi, hy, hfc, hroom]
    | some ad =>
      have := hst ad rfl
      simp [Builtin.append_, run_und ht, run_und hu, run_size hi, hy, hfc, hroom, this]
theorem append_grow {t u ty e : Nat} {i : TypeInfo} {z : Value} (ht : P.underlying t = some (.slice e)) (hu : (∃ e', P.underlying u = some (.slice e')) ∨ P.underlying u = some .string) (hi : P.info? e = some i) (hz : i.zero = some z) {a : Option Addr} {n cap m : Nat} {y : Value}
    (hy : Builtin.lenOf y = pure m) {news olds : List Value} (hfc : (Builtin.firstCells i.size m y).run P w.drew = .ok ⟨news⟩ w.drew) (hfo : (Builtin.firstCells i.size n (.slice a n cap)).run P w.drew = .ok ⟨olds⟩ w.drew)
    (hg : cap < n + m) (h63 : n + m ≤ 9223372036854775807) (hb : (n + m) * i.bytes ≤ 140737488355328) :
    (Builtin.append_ #[t, u] ty #[.slice a n cap, y]).run P w = .ok (.slice (some ⟨w.heap.size, 0, none⟩) (n + m) (grownCap w (n + m) cap e)) (w.drew.alloc (.cells ⟨olds ++ news ++ (Builtin.zeroCells z.cells (grownCap w (n + m) cap e - (n + m))).toList⟩ e)) := by
  have hn : ¬ (n + m ≤ cap) := by omega
  have h63' : ¬ (9223372036854775807 < ((n : Int) + (m : Int))) := by omega
  have hfit := growslice_fits hg hb
  have h48' : ¬ (281474976710656 < Builtin.nextslicecap (n + m) cap * i.bytes) := by omega
  rcases hu with ⟨e', hu⟩ | hu
  all_goals simp [Builtin.append_, run_und ht, run_und hu, run_size hi, run_info hi, zeroValue, hz, hy, hn, h63', h48', Question.forced, hfc, hfo, newRow, grownCap]
  all_goals
    congr 2
    apply Array.ext'
    simp
end

section
variable {E : Ctx} {B : Base} {s : St} {φ : Ph} {S : Nat → Prop} {a : Act} {w : World}

/-- Elements one behind the other, of what cells. -/
def Els (S : Nat → Prop) (w : World) (ag : Bool) (sz n : Nat) (f : Nat → D) (vs : List Value) : Prop := ∀ i, i < n → ∃ x, Cells ag x ((vs.drop (i * sz)).take sz) ∧ Rep0 S w (f i) x

theorem ro_cells {b o n sz : Nat} {ag : Bool} {f : Nat → D} (hz : sz ≠ 0) (h : ∀ i, i < n → ∃ x vs, vs.length = sz ∧ At w b (o + i * sz) vs ∧ Cells ag x vs ∧ Rep0 S w (f i) x) :
    ∃ vs, vs.length = n * sz ∧ At w b o vs ∧ Els S w ag sz n f vs := by
  have hq : ∀ q, q < n * sz → ∃ x, w.cell? ⟨b, o + q, none⟩ = some x ∧ x.oneCell' = true := fun q hq => by
    have hi : q / sz < n := Nat.div_lt_of_lt_mul (by rwa [Nat.mul_comm])
    obtain ⟨x, vs, h1, h2, h3, h4⟩ := h (q / sz) hi
    have hr : q % sz < vs.length := by rw [h1]; exact Nat.mod_lt _ (by omega)
    have := h2 (q % sz) vs[q % sz] (by simp [hr])
    have e : o + q / sz * sz + q % sz = o + q := by have := Nat.div_add_mod q sz; rw [Nat.mul_comm] at this; omega
    rw [e] at this
    exact ⟨_, this⟩
  refine ⟨(List.range (n * sz)).map fun q => (w.cell? ⟨b, o + q, none⟩).getD undef, by simp, fun j x hj => ?_, fun i hi => ?_⟩
  · have hlt : j < n * sz := by
      have := (List.getElem?_eq_some_iff.1 hj).1
      simpa using this
    obtain ⟨y, hy, h1⟩ := hq j hlt
    simp only [List.getElem?_map, List.getElem?_range hlt, Option.map_some, Option.some.injEq, hy, Option.getD_some] at hj
    subst hj
    exact ⟨hy, h1⟩
  · obtain ⟨x, vs, h1, h2, h3, h4⟩ := h i hi
    refine ⟨x, ?_, h4⟩
    have hle : i * sz + sz ≤ n * sz := by
      calc i * sz + sz = (i + 1) * sz := by rw [Nat.add_mul]; omega
        _ ≤ n * sz := Nat.mul_le_mul_right _ hi
    have : vs = (((List.range (n * sz)).map fun q => (w.cell? ⟨b, o + q, none⟩).getD undef).drop (i * sz)).take sz := by
      apply List.ext_getElem?
      intro k
      rw [List.getElem?_take]
      by_cases hk : k < sz
      · rw [if_pos hk, List.getElem?_drop]
        have hkv : k < vs.length := by omega
        have hc := (h2 k vs[k] (by simp [hkv])).1
        have hlt : i * sz + k < n * sz := by omega
        simp only [List.getElem?_map, List.getElem?_range hlt, Option.map_some]
        rw [← Nat.add_assoc, hc]
        simp [hkv]
      · rw [if_neg hk, List.getElem?_eq_none (by omega)]
    exact this ▸ h3

theorem seg_seg {α : Type} (vs : List α) (off j m sz : Nat) (hj : j < m) : ((((vs.drop (off * sz)).take (m * sz)).drop (j * sz)).take sz) = (vs.drop ((off + j) * sz)).take sz := by
  have hle : j * sz + sz ≤ m * sz := by
    calc j * sz + sz = (j + 1) * sz := by rw [Nat.add_mul]; omega
      _ ≤ m * sz := Nat.mul_le_mul_right _ hj
  apply List.ext_getElem?
  intro k
  simp only [List.getElem?_take, List.getElem?_drop]
  by_cases hk : k < sz
  · rw [if_pos hk, if_pos hk, if_pos (by omega), Nat.add_mul]
    congr 1
    omega
  · rw [if_neg hk, if_neg hk]

theorem first_at {P : Program} {b o n sz l c : Nat} {vs : List Value} (h : At w b o vs) (hl : vs.length = n * sz) : (Builtin.firstCells sz n (.slice (some ⟨b, o, none⟩) l c)).run P w = .ok ⟨vs⟩ w :=
  run_firstCells_some w sz n _ l c vs hl fun j v hj => by rw [add_at]; exact (h j v hj).1

/-- What is appended. -/
theorem src_cells (hp : HpAt s.h φ S w) {d : D} {y : Value} (hy : RepV s.h φ S w d y) {m : Nat} {g : Nat → D} {k : Option (Bool × Nat)} (h : srcOf s.h d = some (m, g, k)) {ag : Bool} {sz : Nat} (hz : sz ≠ 0) (hk : k = none ∨ k = some (ag, sz)) (P : Program) :
    Builtin.lenOf y = pure m ∧ ∃ news, news.length = m * sz ∧ (∀ v ∈ news, v.oneCell' = true) ∧ Els S w ag sz m g news ∧ (Builtin.firstCells sz m y).run P w = .ok ⟨news⟩ w ∧ (Builtin.firstCells sz m y).run P w.drew = .ok ⟨news⟩ w.drew := by
  have one_of : ∀ {b o : Nat} {vs : List Value}, At w b o vs → ∀ v ∈ vs, v.oneCell' = true := fun h v hv => by
    obtain ⟨j, hj⟩ := List.getElem?_of_mem hv
    exact (h j v hj).2
  unfold srcOf at h
  split at h
  · simp only [Option.some.injEq, Prod.mk.injEq] at h
    obtain ⟨rfl, rfl, rfl⟩ := h
    simp only [RepV, Rep0] at hy
    subst hy
    exact ⟨rfl, [], by simp, by simp, fun i hi => (by omega), by simp [Builtin.firstCells], by simp [Builtin.firstCells]⟩
  · rename_i ag' sz' n f
    simp only [Option.some.injEq, Prod.mk.injEq] at h
    obtain ⟨rfl, rfl, rfl⟩ := h
    simp only [reduceCtorEq, Option.some.injEq, Prod.mk.injEq, false_or] at hk
    obtain ⟨rfl, rfl⟩ := hk
    simp only [RepV, Rep0] at hy
    obtain ⟨ad, cap, rfl, hn, hcap, hy⟩ := hy
    refine ⟨rfl, ?_⟩
    rcases Nat.eq_zero_or_pos n with rfl | hpos
    · refine ⟨[], by simp, by simp, fun i hi => (by omega), ?_, ?_⟩ <;> cases ad <;> simp [Builtin.firstCells, loadCells, loadCellsFrom]
    · obtain ⟨b, o, rfl, hb, hel⟩ := hy hpos
      obtain ⟨vs, h1, h2, h3⟩ := ro_cells hz hel
      exact ⟨vs, h1, one_of h2, h3, first_at h2 h1, first_at (w := w.drew) h2 h1⟩
  · rename_i b ver off n
    simp only [RepV] at hy
    obtain ⟨fz, ver', ag', sz', m', f, hl, hv, hy⟩ := hy
    rw [hl] at h
    simp only at h
    split at h
    · rename_i hver
      subst hver
      simp only [Option.some.injEq, Prod.mk.injEq] at h
      obtain ⟨rfl, rfl, rfl⟩ := h
      simp only [reduceCtorEq, Option.some.injEq, Prod.mk.injEq, false_or] at hk
      obtain ⟨rfl, rfl⟩ := hk
      obtain ⟨hm, ad, cap, rfl, hn, ha0, ha1⟩ := hy rfl
      refine ⟨rfl, ?_⟩
      rcases Nat.eq_zero_or_pos n with rfl | hpos
      · refine ⟨[], by simp, by simp, fun i hi => (by omega), ?_, ?_⟩ <;> cases ad <;> simp [Builtin.firstCells, loadCells, loadCellsFrom]
      · have hph : φ b ≠ none := fun e => by have := (ha0 e).2; omega
        obtain ⟨⟨c, tot⟩, hph⟩ := Option.ne_none_iff_exists'.1 hph
        obtain ⟨q1, q2, q3⟩ := ha1 c tot hph
        obtain ⟨_, _, htot, hn2, vs, e2, lo, hi', hheap, hlen, ⟨_, h1c⟩, hels⟩ := (hp.blk b _ hl).2 c tot hph
        rw [q3 (by omega)]
        have hat := (At.of_heap hheap h1c).part (off * sz') (n * sz')
        rw [Nat.zero_add] at hat
        have hle : off * sz' + n * sz' ≤ vs.length := by
          rw [hlen, ← Nat.add_mul]
          exact Nat.mul_le_mul_right _ (by omega)
        have hl' : ((vs.drop (off * sz')).take (n * sz')).length = n * sz' := by simp; omega
        refine ⟨_, hl', one_of hat, fun i hi => ?_, first_at hat hl', first_at (w := w.drew) hat hl'⟩
        obtain ⟨x, g3, g4⟩ := hels (off + i) (by omega)
        exact ⟨x, by rw [seg_seg _ _ _ _ _ hi]; exact g3, g4⟩
    · cases h
  · rename_i l
    simp only [Option.some.injEq, Prod.mk.injEq] at h
    obtain ⟨rfl, rfl, rfl⟩ := h
    simp only [reduceCtorEq, Option.some.injEq, Prod.mk.injEq, false_or] at hk
    obtain ⟨rfl, rfl⟩ := hk
    simp only [RepV, Rep0] at hy
    subst hy
    have hfc : ∀ w : World, (Builtin.firstCells 1 l.length (.string ⟨l.toArray⟩)).run P w = .ok ⟨l.map fun b => Value.int .u8 (b.toNat : Int)⟩ w := fun w => by
      simp only [Builtin.firstCells, Sem.run_pure]
      congr 1
      apply Array.ext'
      simp [ByteArray.data_extract]
    refine ⟨by simp [Builtin.lenOf, ByteArray.size], _, by simp, ?_, fun i hi => ?_, hfc w, hfc w.drew⟩
    · intro v hv
      simp only [List.mem_map] at hv
      obtain ⟨b, _, rfl⟩ := hv
      rfl
    · refine ⟨.int .u8 (l[i].toNat : Int), ?_, ?_⟩
      · simp only [Cells, Bool.false_eq_true, if_false, Nat.mul_one]
        rw [List.drop_eq_getElem_cons (by simpa using hi)]
        simp
      · simp [Rep0, List.getD, hi]
  · cases h
theorem zero_seg (z : List Value) (k : Nat) (hz : z ≠ []) (h1 : ∀ y ∈ z, y.oneCell' = true) : (Builtin.zeroCells ⟨z⟩ k).toList.length = k * z.length ∧ ∀ y ∈ (Builtin.zeroCells ⟨z⟩ k).toList, y.oneCell' = true := by
  refine ⟨by simp [Builtin.zeroCells], ?_⟩
  have : Builtin.zeroCells ⟨z⟩ k = madeCells ⟨z⟩ (k * z.length) := by simp [Builtin.zeroCells, madeCells]
  rw [this]
  exact made_one z _ h1 hz

/-- Old elements, and new ones behind them. -/
theorem els_append {ag : Bool} {sz n m : Nat} {f g : Nat → D} {vs us rest : List Value} (hv : vs.length = n * sz) (hu : us.length = m * sz) (h1 : Els S w ag sz n f vs) (h2 : Els S w ag sz m g us) :
    Els S w ag sz (n + m) (fun j => if j < n then f j else g (j - n)) (vs ++ us ++ rest) := by
  intro i hi
  have seg : ∀ (xs ys : List Value) (j : Nat), j * sz + sz ≤ xs.length → ((xs ++ ys).drop (j * sz)).take sz = (xs.drop (j * sz)).take sz := fun xs ys j hj => by
    rw [List.drop_append_of_le_length (by omega), List.take_append_of_le_length (by simp; omega)]
  by_cases hin : i < n
  · obtain ⟨x, g1, g2⟩ := h1 i hin
    have hle : i * sz + sz ≤ n * sz := by
      calc i * sz + sz = (i + 1) * sz := by rw [Nat.add_mul]; omega
        _ ≤ n * sz := Nat.mul_le_mul_right _ hin
    refine ⟨x, ?_, by simpa [hin] using g2⟩
    rw [List.append_assoc, seg _ _ _ (by omega)]
    exact g1
  · obtain ⟨x, g1, g2⟩ := h2 (i - n) (by omega)
    have hle : (i - n) * sz + sz ≤ m * sz := by
      calc (i - n) * sz + sz = (i - n + 1) * sz := by rw [Nat.add_mul]; omega
        _ ≤ m * sz := Nat.mul_le_mul_right _ (by omega)
    have e : i * sz = n * sz + (i - n) * sz := by rw [← Nat.add_mul]; congr 1; omega
    refine ⟨x, ?_, by simpa [hin] using g2⟩
    rw [seg _ _ _ (by simp; omega), e, ← hv, ← List.drop_drop, List.drop_left]
    exact g1

theorem append_sound (hr : Rel B s φ S a w) (hev : ∀ x, RepV s.h φ S w (ev E s x) (a.eval x)) {o : Oper} {x y : Operand} {t u : Nat} (ho : o.op = .call { callee := .builtin .append, args := ⟨[x, y]⟩, argTypes := ⟨[t, u]⟩ }) {K : D → St → Prop} (h : ef E s o.op K) : Goes E B s S a w o K := by
  rw [ho] at h
  simp only [ef] at h
  have hx := hev x
  split at h
  · rename_i e m g k hk hsrc
    obtain ⟨hu, hkb, hz, hzch, hs0, hkk, h⟩ := h
    have hu' : (∃ e', E.P.underlying u = some (.slice e')) ∨ E.P.underlying u = some .string := by
      rcases hu with hu | hu
      · exact .inl ⟨e, und_slc hu⟩
      · exact .inr (und_str hu)
    obtain ⟨i, d, z, hi, hud, hzz, hzd, hag, hsz, hb⟩ := hz_zero hkb hz
    have hrep : RepV ([] : Hp) φ S w (E.tt e).zero z := by rw [hzd]; exact Rep0.toV _ _ (ofVal_rep z)
    obtain ⟨zs, hzcu, _, hzl, hz1⟩ := chk_cells hrep hzch
    have hzne : zs ≠ [] := fun e => by rw [e] at hzl; exact hs0 hzl.symm
    obtain ⟨hlen, news, hnl, hn1, hnels, hfc, hfcd⟩ := src_cells hr.hp (hev y) hsrc hs0 hkk E.P
    have run_of : ∀ {v : Value} {w' : World}, (Builtin.append_ #[t, u] o.type #[a.eval x, a.eval y]).run E.P w = .ok v w' → (execOp a.eval o).run E.P w = .ok (.value v) w' := fun h => by
      simp [execOp, ho, resolve, invoke, builtin, h]
    rw [hsz] at hfc hfcd
    split at h
    · rename_i ex
      obtain ⟨hm63, hmb, hK⟩ := h
      rw [ex] at hx
      simp only [RepV, Rep0] at hx
      by_cases hm0 : m = 0
      · subst hm0
        obtain rfl : news = [] := List.eq_nil_of_length_eq_zero (by simpa using hnl)
        have hT := turn_new hr (.row false 0 (E.tt e).ag (E.tt e).sz 0 g) none (fun c t e => by cases e) (w1 := w) rfl rfl rfl (Nat.le_refl _) (fun k hk => rfl) (fun h => absurd rfl h)
        refine ⟨_, _, _, .value (.slice none 0 0), _, w, ?_, .inl rfl, hK, rfl, hT.rel hr fun q hq => ?_, ?_⟩
        · apply run_of
          rw [hx]
          exact append_room (und_slc hk) hu' hi hlen hfc (by omega) (fun ad e => by cases e) (fun _ => rfl)
        · simp only [lookB, if_true, Option.some.injEq] at hq
          subst hq
          exact ⟨fun _ => rfl, fun c t e => by simp [phUp] at e⟩
        · simp only [RepV]
          refine ⟨false, 0, (E.tt e).ag, (E.tt e).sz, 0, g, by simp [lookB], Nat.le_refl _, fun _ => ⟨by omega, none, 0, rfl, by omega, fun _ => ⟨rfl, rfl⟩, fun c t e => by simp [phUp] at e⟩⟩
      · have hge := grownCap_ge w (0 + m) 0 e
        have hle := grownCap_le_maxLen w (0 + m) 0 e (by simp only [maxLen]; omega)
        have hrun := append_grow (w := w) (ty := o.type) (und_slc hk) hu' hi hzz (a := none) (n := 0) (cap := 0) hlen hfcd (olds := []) (by simp [Builtin.firstCells]) (by omega) (by omega) (by rw [← hb]; simpa using hmb)
        rw [hzcu] at hrun
        obtain ⟨z1, z2⟩ := zero_seg zs (grownCap w (0 + m) 0 e - (0 + m)) hzne hz1
        obtain ⟨φ', r1, r2⟩ := row_new hr (w1 := w.drew.alloc (.cells ⟨[] ++ news ++ (Builtin.zeroCells ⟨zs⟩ (grownCap w (0 + m) 0 e - (0 + m))).toList⟩ e)) (vs := [] ++ news ++ (Builtin.zeroCells ⟨zs⟩ (grownCap w (0 + m) 0 e - (0 + m))).toList) (ty := e) (lo := 0) (hi := 0) (tot := grownCap w (0 + m) 0 e) (n := m)
          (sz := (E.tt e).sz) (ag := (E.tt e).ag) (f := g) rfl rfl rfl rfl (by
            rw [List.length_append, z1, hzl, List.nil_append, hnl, ← Nat.add_mul]
            congr 1
            omega) (by simp only [maxLen] at hle; omega) (by omega) (by simp) (fun y hy => by
              simp only [List.nil_append, List.mem_append] at hy
              rcases hy with hy | hy
              · exact hn1 y hy
              · exact z2 y hy) (fun i hi => by
                have := els_append (rest := (Builtin.zeroCells ⟨zs⟩ (grownCap w (0 + m) 0 e - (0 + m))).toList) (vs := []) (n := 0) (f := g) (by simp) hnl (fun i hi => by omega) hnels i (by omega)
                simpa using this)
        refine ⟨_, _, φ', .value _, _, _, ?_, .inl rfl, hK, rfl, r1, r2⟩
        apply run_of
        rw [hx]
        simpa using hrun
    · rename_i b ver n ex
      split at h
      · rename_i ver' ag sz m0 f hl
        obtain ⟨rfl, rfl, rfl, hm63, hmb, hK⟩ := h
        rw [ex] at hx
        simp only [RepV] at hx
        obtain ⟨fz', ver2, ag', sz', m2, f2, hl2, hv2, hx⟩ := hx
        rw [hl] at hl2
        simp only [Option.some.injEq, Blk.row.injEq] at hl2
        obtain ⟨rfl, rfl, rfl, rfl, rfl, rfl⟩ := hl2
        obtain ⟨hm, ad, cap, hxv, hncap, ha0, ha1⟩ := hx rfl
        obtain ⟨hb0, hb1⟩ := hr.hp.blk b _ hl
        have hlu : lookB (up s.h b (.row false (ver + 1) (E.tt e).ag (E.tt e).sz (n + m) fun j => if j < n then f j else g (j - n))) b = some (.row false (ver + 1) (E.tt e).ag (E.tt e).sz (n + m) fun j => if j < n then f j else g (j - n)) := by
          rw [lookB_up]; simp [hl]
        have hextr : ∀ p : Option (Nat × Nat), (∀ ag sz d, Blk.row false ver (E.tt e).ag (E.tt e).sz m0 f = .var ag sz d → (∃ d', Blk.row false (ver + 1) (E.tt e).ag (E.tt e).sz (n + m) (fun j => if j < n then f j else g (j - n)) = .var ag sz d') ∧ p = φ b) ∧
            (∀ fz v ag sz q f', Blk.row false ver (E.tt e).ag (E.tt e).sz m0 f = .row fz v ag sz q f' → ∃ fz' ver' m' f'', Blk.row false (ver + 1) (E.tt e).ag (E.tt e).sz (n + m) (fun j => if j < n then f j else g (j - n)) = .row fz' ver' ag sz m' f'' ∧ v ≤ ver' ∧ (v = ver' → q ≤ m' ∧ p = φ b)) := fun p =>
          ⟨fun _ _ _ he => (by cases he), fun _ _ _ _ _ _ he => (by cases he; exact ⟨_, _, _, _, rfl, Nat.le_succ _, fun h => absurd h (by omega)⟩)⟩
        have fin : ∀ {w1 : World} {p : Option (Nat × Nat)} {v' : Value}, (Builtin.append_ #[t, u] o.type #[a.eval x, a.eval y]).run E.P w = .ok v' w1 →
            Turn B s φ S w b (up s.h b (.row false (ver + 1) (E.tt e).ag (E.tt e).sz (n + m) fun j => if j < n then f j else g (j - n))) (phUp φ b p) s.nx w1 →
            (p = none → n + m = 0 ∧ v' = .slice none 0 0) →
            (∀ c tot, p = some (c, tot) → ¬ S c ∧ tot ≤ 9223372036854775807 ∧ n + m ≤ tot ∧ (∃ ad, v' = .slice (some ad) (n + m) tot ∧ (0 < tot → ad = ⟨c, 0, none⟩)) ∧
              ∃ vs ty lo hi, w1.heap[c]? = some (.cells ⟨vs⟩ ty (lo, hi)) ∧ vs.length = tot * (E.tt e).sz ∧ ((∀ o, o < tot * (E.tt e).sz → ¬ (lo ≤ o ∧ o < hi)) ∧ ∀ y ∈ vs, y.oneCell' = true) ∧ Els S w (E.tt e).ag (E.tt e).sz (n + m) (fun j => if j < n then f j else g (j - n)) vs) → Goes E B s S a w o K := by
          intro w1 p v' hrun hT hp0 hp1
          have hkept := hT.kept hr.slt
          refine ⟨_, _, _, .value v', _, w1, run_of hrun, .inl rfl, hK, rfl, hT.rel hr fun q hq => ?_, ?_⟩
          · rw [hlu] at hq
            simp only [Option.some.injEq] at hq
            subst hq
            refine ⟨fun e => ?_, fun c tot e => ?_⟩
            · simp only [phUp, if_true] at e
              exact (hp0 e).1
            · simp only [phUp, if_true] at e
              obtain ⟨h1, h2, h3, _, vs, ty, lo, hi, h4, h5, h6, h7⟩ := hp1 c tot e
              refine ⟨fun _ => h1, fun h => (by cases h), h2, h3, vs, ty, lo, hi, h4, h5, h6, fun i hi => ?_⟩
              obtain ⟨x, g1, g2⟩ := h7 i hi
              exact ⟨x, g1, Rep0.mono hkept (fun _ h => h) _ _ g2⟩
          · simp only [RepV]
            refine ⟨_, _, _, _, _, _, hlu, Nat.le_refl _, fun _ => ⟨by omega, ?_⟩⟩
            cases p with
            | none =>
              obtain ⟨h1, h2⟩ := hp0 rfl
              exact ⟨none, 0, by rw [h2, h1], by omega, fun _ => ⟨rfl, rfl⟩, fun c t e => by simp [phUp] at e⟩
            | some p =>
              obtain ⟨c, tot⟩ := p
              obtain ⟨_, _, h3, ⟨ad', h4, h5⟩, _⟩ := hp1 c tot rfl
              refine ⟨some ad', tot, h4, h3, fun e => by simp [phUp] at e, fun c' t' e => ?_⟩
              simp only [phUp, if_true, Option.some.injEq, Prod.mk.injEq] at e
              obtain ⟨rfl, rfl⟩ := e
              refine ⟨by omega, rfl, fun h => by rw [h5 h]; simp⟩
        have hcap63 : cap ≤ 9223372036854775807 := by
          cases hph : φ b with
          | none => have := (ha0 hph).2; omega
          | some p => obtain ⟨c, tot⟩ := p; have := (ha1 c tot hph).1; have := (hb1 c tot hph).2.2.1; omega
        -- what is there, as a list
        have holds : ∃ olds, olds.length = n * (E.tt e).sz ∧ (∀ y ∈ olds, y.oneCell' = true) ∧ Els S w (E.tt e).ag (E.tt e).sz n f olds ∧ (Builtin.firstCells i.size n (.slice ad n cap)).run E.P w.drew = .ok ⟨olds⟩ w.drew ∧
            ∀ c tot, φ b = some (c, tot) → ∃ vs ty lo hi, w.heap[c]? = some (.cells ⟨vs⟩ ty (lo, hi)) ∧ vs.length = tot * (E.tt e).sz ∧ ((∀ o, o < tot * (E.tt e).sz → ¬ (lo ≤ o ∧ o < hi)) ∧ ∀ y ∈ vs, y.oneCell' = true) ∧ olds = vs.take (n * (E.tt e).sz) := by
          cases hph : φ b with
          | none =>
            obtain ⟨h1, h2⟩ := ha0 hph
            obtain rfl : n = 0 := by omega
            exact ⟨[], by simp, by simp, fun i hi => by omega, by rw [h1]; simp [Builtin.firstCells], fun c t e => by cases e⟩
          | some p =>
            obtain ⟨c, tot⟩ := p
            obtain ⟨h1, h2, h3, h4, vs, ty, lo, hi', h5, h6, h7, h8⟩ := hb1 c tot hph
            obtain ⟨q1, q2, q3⟩ := ha1 c tot hph
            have hle : n * (E.tt e).sz ≤ vs.length := by rw [h6]; exact Nat.mul_le_mul_right _ (by omega)
            refine ⟨vs.take (n * (E.tt e).sz), by simp; omega, fun y hy => h7.2 y (List.mem_of_mem_take hy), fun j hj => ?_, ?_, fun c' t' e => by cases e; exact ⟨vs, ty, lo, hi', h5, h6, h7, rfl⟩⟩
            · obtain ⟨x, g3, g4⟩ := h8 j (by omega)
              have := seg_seg vs 0 j n (E.tt e).sz hj
              simp only [Nat.zero_mul, List.drop_zero, Nat.zero_add] at this
              exact ⟨x, by rw [this]; exact g3, g4⟩
            · rcases Nat.eq_zero_or_pos n with rfl | hpos
              · cases ad <;> simp [Builtin.firstCells, loadCells, loadCellsFrom]
              · rw [q3 (by omega), ← hsz]
                have hat := (At.of_heap (w := w.drew) h5 h7.2).part 0 (n * (E.tt e).sz)
                exact first_at (by simpa using hat) (by simp; omega)
        obtain ⟨olds, ho1, ho2, ho3, ho4, ho5⟩ := holds
        by_cases hroom : n + m ≤ cap
        · -- in its place
          cases hph : φ b with
          | none =>
            obtain ⟨h1, h2⟩ := ha0 hph
            obtain rfl : n = 0 := by omega
            obtain rfl : m = 0 := by omega
            obtain rfl : news = [] := List.eq_nil_of_length_eq_zero (by simpa using hnl)
            refine fin (w1 := w) (p := none) (v' := .slice none 0 0) ?_ (turn_up hr hl none (fun c t e => by rw [hph] at e; cases e) (hextr none) (fun c t e => by cases e) rfl rfl rfl (Nat.le_refl _) (fun k _ _ => rfl)) (fun _ => ⟨rfl, rfl⟩) (fun c t e => by cases e)
            rw [hxv, h1, h2]
            exact append_room (und_slc hk) hu' hi hlen hfc (by omega) (fun ad e => by cases e) (fun _ => rfl)
          | some p =>
            obtain ⟨c, tot⟩ := p
            obtain ⟨hns', _, h3, h4, _⟩ := hb1 c tot hph
            have hns := hns' rfl
            obtain ⟨q1, q2, q3⟩ := ha1 c tot hph
            obtain ⟨vs, ty, lo, hi', h5, h6, h7, h8⟩ := ho5 c tot hph
            obtain ⟨ad', hadv⟩ := Option.isSome_iff_exists.1 q2
            have hfit : n * (E.tt e).sz + news.length ≤ vs.length := by
              rw [hnl, h6, ← Nat.add_mul]; exact Nat.mul_le_mul_right _ (by omega)
            have hst := store_run E.P (c := c) (o := n * (E.tt e).sz) news 0 vs w h5 (by omega) (by rw [h6]; exact h7.1) hn1
            simp only [Nat.add_zero] at hst
            refine fin (w1 := w.setRow c (vs.take (n * (E.tt e).sz) ++ news ++ vs.drop (n * (E.tt e).sz + news.length)).toArray) (p := some (c, tot)) (v' := .slice ad (n + m) cap) ?_
              (turn_up hr hl (some (c, tot)) (fun c' t' e' => by rw [hph] at e'; cases e'; exact hns) (hextr _) (fun c' t' e' => by cases e'; exact .inr ⟨_, hph⟩) rfl rfl rfl (by simp) (fun k _ hne => setRow_other w c k _ (hne c tot hph))) (fun e => by cases e) (fun c' t' e' => ?_)
            · rw [hxv]
              refine append_room (und_slc hk) hu' hi hlen hfc hroom (fun ad'' e' => ?_) (fun e' => by rw [hadv] at e'; cases e')
              rcases Nat.eq_zero_or_pos cap with hc0 | hcp
              · obtain rfl : n = 0 := by omega
                obtain rfl : m = 0 := by omega
                obtain rfl : news = [] := List.eq_nil_of_length_eq_zero (by simpa using hnl)
                simp only [storeCells, Sem.run_pure, Nat.zero_mul, List.take_zero, List.nil_append, List.length_nil, Nat.add_zero, List.drop_zero]
                rw [setRow_self w c vs.toArray ty (lo, hi') h5]
              · rw [q3 hcp] at e'
                cases e'
                rw [add_at, ← hsz]
                simpa using hst
            · cases e'
              refine ⟨hns, h3, by omega, ⟨ad', by rw [hadv, show tot = cap by omega], fun hp => ?_⟩, _, ty, lo, hi', setRow_heap w c ⟨vs⟩ _ ty (lo, hi') h5, ?_, ⟨h7.1, ?_⟩, ?_⟩
              · have := q3 (by omega)
                rw [hadv] at this
                simpa using this
              · simp; omega
              · intro y hy
                simp only [List.mem_append] at hy
                rcases hy with (hy | hy) | hy
                · exact h7.2 y (List.mem_of_mem_take hy)
                · exact hn1 y hy
                · exact h7.2 y (List.mem_of_mem_drop hy)
              · rw [← h8]
                exact els_append ho1 hnl ho3 hnels
        · -- elsewhere
          have hge := grownCap_ge w (n + m) cap e
          have hle := grownCap_le_maxLen w (n + m) cap e (by simp only [maxLen]; omega)
          have hrun := append_grow (w := w) (ty := o.type) (und_slc hk) hu' hi hzz hlen hfcd ho4 (by omega) (by omega) (by rw [← hb]; exact hmb)
          rw [hzcu] at hrun
          obtain ⟨z1, z2⟩ := zero_seg zs (grownCap w (n + m) cap e - (n + m)) hzne hz1
          refine fin (w1 := w.drew.alloc (.cells ⟨olds ++ news ++ (Builtin.zeroCells ⟨zs⟩ (grownCap w (n + m) cap e - (n + m))).toList⟩ e)) (p := some (w.heap.size, grownCap w (n + m) cap e)) (by rw [hxv]; exact hrun)
            (turn_up hr hl _ (fun c' t' e' => (hb1 c' t' e').1 rfl) (hextr _) (fun c' t' e' => by cases e'; exact .inl ⟨rfl, by simp⟩) rfl rfl rfl (by simp) (fun k hk _ => Below.heap_alloc w.drew _ k hk)) (fun e => by cases e) (fun c' t' e' => ?_)
          cases e'
          refine ⟨fun h => Nat.lt_irrefl _ (hr.slt _ h), by simp only [maxLen] at hle; omega, hge, ⟨_, rfl, fun _ => rfl⟩, _, e, 0, 0, Go.heap_alloc_new w.drew _, ?_, ⟨by simp, ?_⟩, els_append ho1 hnl ho3 hnels⟩
          · rw [List.length_append, List.length_append, z1, hzl, ho1, hnl, ← Nat.add_mul, ← Nat.add_mul]
            congr 1
            omega
          · intro y hy
            simp only [List.mem_append] at hy
            rcases hy with (hy | hy) | hy
            · exact ho2 y hy
            · exact hn1 y hy
            · exact z2 y hy
      · exact h.elim
    · exact h.elim
  · exact h.elim
end

end Go.Proofs.YtmcinfbckdiaoaaGreatDoor.Lv

set_option linter.unusedVariables false
set_option linter.unusedSimpArgs false
namespace Go.Proofs.YtmcinfbckdiaoaaGreatDoor.Lv
open Go Go.RowKit

section
variable {E : Ctx} {B : Base} {s : St} {φ : Ph} {S : Nat → Prop} {a : Act} {w : World}

theorem conv_bytes_sound (hr : Rel B s φ S a w) (hev : ∀ x, RepV s.h φ S w (ev E s x) (a.eval x)) {o : Oper} {src t : Nat} {x : Operand} (ho : o.op = .convert src t x) {K : D → St → Prop} (h : ef E s o.op K) : Goes E B s S a w o K := by
  rw [ho] at h
  simp only [ef] at h
  have hx := hev x
  split at h
  · rename_i e l hs ht ex
    obtain ⟨he, hl, hK⟩ := h
    rw [ex] at hx
    simp only [RepV, Rep0] at hx
    have hsl : (⟨l.toArray⟩ : ByteArray).size = l.length := by simp [ByteArray.size]
    have hge := grownCap_ge w l.length 0 e
    have hle := grownCap_le_maxLen w l.length 0 e (by simp only [maxLen]; omega)
    have hrun := Lib.run_convert_string_bytes (P := E.P) w src t e ⟨l.toArray⟩ (und_str hs) (und_slc ht) (und_int he)
    have hcells : Lib.bytesCells w e ⟨l.toArray⟩ = ⟨(l.map fun b => Value.int .u8 (b.toNat : Int)) ++ List.replicate (grownCap w l.length 0 e - l.length) (.int .u8 0)⟩ := by
      apply Array.ext'
      simp [Lib.bytesCells, hsl]
    have hnew := Lib.bytesWorld_at_new w e ⟨l.toArray⟩
    rw [hcells] at hnew
    obtain ⟨φ', r1, r2⟩ := row_new' hr (w1 := Lib.bytesWorld w e ⟨l.toArray⟩) (tot := grownCap w l.length 0 e) (n := l.length) (sz := 1) (ag := false) (f := fun i => .int .u8 ((l.getD i 0).toNat : Int))
      (fun k hk => Lib.bytesWorld_at_old w e _ k hk) hnew (by rw [Lib.bytesWorld_size]; omega) (by first | rfl | (simp [Lib.bytesWorld, World.freeze]; done) | (simp [Lib.bytesWorld, World.freeze]; rfl)) (by first | rfl | (simp [Lib.bytesWorld, World.freeze]; done) | (simp [Lib.bytesWorld, World.freeze]; rfl)) (by first | rfl | (simp [Lib.bytesWorld, World.freeze]; done) | (simp [Lib.bytesWorld, World.freeze]; rfl))
      (by simp; omega) (by simp only [maxLen] at hle; omega) hge (by simp; omega) (by
      intro y hy
      simp only [List.mem_append, List.mem_map, List.mem_replicate] at hy
      rcases hy with ⟨b, _, rfl⟩ | ⟨_, rfl⟩ <;> rfl) (fun i hi => by
      refine ⟨.int .u8 (l[i].toNat : Int), ?_, by simp [Rep0, List.getD, hi]⟩
      simp only [Cells, Bool.false_eq_true, if_false, Nat.mul_one]
      rw [List.drop_append_of_le_length (by simp; omega), List.take_append_of_le_length (by simp; omega), List.drop_eq_getElem_cons (by simpa using hi)]
      simp)
    refine ⟨_, _, φ', .value _, _, _, ?_, .inl rfl, hK, rfl, r1, r2⟩
    rw [hsl] at hrun
    simp [execOp, ho, hx, hrun]
  · exact h.elim

theorem eqIn_sl {P : Program} (d : Nat) {t e : Nat} (a : Option Addr) (n c : Nat) (hu : P.underlying t = some (.slice e)) : (Op.equalIn (d + 1) t (.slice a n c) (.slice none 0 0)).run P w = .ok a.isNone w := by
  unfold Op.equalIn
  cases a <;> simp [run_und hu]
theorem eql_sound (hr : Rel B s φ S a w) (hev : ∀ x, RepV s.h φ S w (ev E s x) (a.eval x)) {o : Oper} {t yt : Nat} {x y : Operand} (ho : o.op = .binOp .eql t x y yt) {K : D → St → Prop} (h : ef E s o.op K) : Goes E B s S a w o K := by
  rw [ho] at h
  simp only [ef] at h
  have hx := hev x
  have hy := hev y
  have run_of : ∀ {ad : Option Addr} {n c : Nat}, a.eval x = .slice ad n c → a.eval y = .slice none 0 0 → (∃ e, (E.tt t).k = .slc e) → (execOp a.eval o).run E.P w = .ok (.value (.bool ad.isNone)) w := by
    rintro ad n c h1 h2 ⟨e, hk⟩
    simp [execOp, ho, h1, h2, eqGuard, binOp, run_eq (eqIn_sl 9999 ad n c (und_slc hk))]
  split at h
  · rename_i e hk e1 e2
    rw [e1] at hx
    rw [e2] at hy
    simp only [RepV, Rep0] at hx hy
    exact ⟨_, _, φ, .value _, _, _, run_of hx hy ⟨e, hk⟩, .inl rfl, h, rfl, hr, by simp [RepV, Rep0]⟩
  · rename_i e ag sz n f hk e1 e2
    rw [e1] at hx
    rw [e2] at hy
    simp only [RepV, Rep0] at hx hy
    obtain ⟨ad, cap, hv, _, _, hpos⟩ := hx
    refine ⟨_, _, φ, .value _, _, _, run_of hv hy ⟨e, hk⟩, .inl rfl, h ad.isNone fun hn => ?_, rfl, hr, by simp [RepV, Rep0]⟩
    rcases Nat.eq_zero_or_pos n with h0 | h0
    · exact h0
    · obtain ⟨b, o, rfl, _⟩ := hpos h0
      cases hn
  · exact h.elim

/-- ALL EFFECTS. -/
theorem ef_sound (hr : Rel B s φ S a w) (hev : ∀ x, RepV s.h φ S w (ev E s x) (a.eval x)) {o : Oper} {K : D → St → Prop} (h : ef E s o.op K) : Goes E B s S a w o K := by
  cases hop : o.op
  case box t x => exact box_sound hr hev hop h
  case alloc t => exact alloc_sound hr hop h
  case store t ad x => exact store_sound hr hev hop h
  case makeSlice t l c => exact make_sound hr hev hop h
  case buildSlice t n ps => obtain ⟨ps⟩ := ps; exact bslice_sound hr hev hop h
  case convert src t x => exact conv_bytes_sound hr hev hop h
  case binOp op t x y yt =>
    cases op
    case eql => exact eql_sound hr hev hop h
    all_goals (rw [hop] at h; exact (show False from h).elim)
  case call c =>
    have h' := h
    rw [hop] at h'
    unfold ef at h'
    split at h' <;> first | (rename_i e; cases e) | exact h'.elim
    exact append_sound hr hev hop h
  all_goals (rw [hop] at h; exact (show False from h).elim)

/-- What is built. -/
theorem over_rep {H : Hp} : ∀ (ps : List (Nat × D)) (vs : List (Nat × Value)) (places : List (Nat × Nat)) (q : List (Nat × List D)) (z : List D) (cs : List Value),
    ps.map (·.1) = vs.map (·.1) → RepVs H φ S w (ps.map (·.2)) (vs.map (·.2)) → fits E H ps places = some q → RepVs H φ S w z cs → (q.all fun x => decide (x.1 + x.2.length ≤ z.length)) = true →
    ∃ cs', Instr.fill (fun i => (places.map fun p => (p.1, (E.tt p.2).sz))[i]?) ⟨cs⟩ vs = some ⟨cs'⟩ ∧ RepVs H φ S w (over z q) cs'
  | [], vs, places, q, z, cs, h1, h2, h3, h4, h5 => by
    cases vs with
    | nil => simp only [fits, Option.some.injEq] at h3; subst h3; exact ⟨cs, rfl, h4⟩
    | cons v vs => simp at h1
  | (i, d) :: ps, vs, places, q, z, cs, h1, h2, h3, h4, h5 => by
    cases vs with
    | nil => simp at h1
    | cons v vs =>
      obtain ⟨i', v⟩ := v
      simp only [List.map_cons, List.cons.injEq, RepVs] at h1 h2
      obtain ⟨rfl, h1⟩ := h1
      obtain ⟨v', vs', ⟨rfl, rfl⟩, hd, h2⟩ := h2
      simp only [fits] at h3
      split at h3
      · cases h3
      · rename_i off t hpl
        split at h3
        · cases h3
        · rename_i us hus
          split at h3
          · rename_i hsz
            obtain ⟨hsz, hone⟩ := hsz
            cases hf : fits E H ps places with
            | none => rw [hf] at h3; cases h3
            | some q' =>
              rw [hf] at h3
              simp only [Option.map_some, Option.some.injEq] at h3
              subst h3
              simp only [List.all_cons, Bool.and_eq_true, decide_eq_true_eq] at h5
              obtain ⟨ws, hw1, hw2⟩ : ∃ ws, v.cells = ⟨ws⟩ ∧ RepVs H φ S w us ws := by
                unfold cellsOf at hus
                cases hag : (E.tt t).ag with
                | true =>
                  rw [hag] at hus
                  simp only [if_true] at hus
                  cases d <;> simp only [asAgg, Option.some.injEq, reduceCtorEq] at hus
                  subst hus
                  simp only [RepV] at hd
                  obtain ⟨ws, rfl, hd⟩ := hd
                  exact ⟨ws, rfl, hd⟩
                | false =>
                  rw [hag] at hus
                  simp only [Bool.false_eq_true, if_false, Option.some.injEq] at hus
                  subst hus
                  refine ⟨[v], ?_, v, [], rfl, hd, rfl⟩
                  have h1 : one H d = true := by simpa [hag] using hone
                  have := one_cell hd h1
                  cases v <;> first | rfl | simp [Value.oneCell'] at this
              have hlw : ws.length = (E.tt t).sz := by rw [hw2.length]; exact hsz
              have hle : off + ws.length ≤ cs.length := by rw [hlw, ← hsz, h4.length]; exact h5.1
              have hz : (z.take off ++ us ++ z.drop (off + us.length)).length = z.length := by simp; omega
              obtain ⟨cs', g1, g2⟩ := over_rep ps vs places q' (z.take off ++ us ++ z.drop (off + us.length)) (cs.take off ++ ws ++ cs.drop (off + ws.length)) h1 h2 hf
                (by rw [show ws.length = us.length by rw [hw2.length]]; exact ((h4.take off).append hw2).append (h4.drop _)) (by rw [hz]; exact h5.2)
              refine ⟨cs', ?_, g2⟩
              rw [fill_cons _ (off := off) (sz := (E.tt t).sz) (by simp [hpl]) hw1 hlw hle]
              exact g1
          · cases h3
theorem nbad_iff {k : TK} : nbad k = true ↔ k ≠ .bad := by cases k <;> simp [nbad]
theorem fill_mono {p p' : Nat → Option (Nat × Nat)} (h : ∀ i x, p i = some x → p' i = some x) : ∀ (l : List (Nat × Value)) (cs r : Array Value), Instr.fill p cs l = some r → Instr.fill p' cs l = some r
  | [], cs, r, h1 => h1
  | (i, v) :: l, cs, r, h1 => by
    simp only [Instr.fill] at h1 ⊢
    cases hp : p i with
    | none => rw [hp] at h1; cases h1
    | some x =>
      rw [h i x hp]
      rw [hp] at h1
      obtain ⟨off, sz⟩ := x
      simp only at h1 ⊢
      split at h1
      · cases h1
      · rename_i hc
        rw [if_neg hc]
        exact fill_mono h l _ r h1
theorem places_run {E : Ctx} : ∀ (F : List Field), (F.all fun f => nbad (E.tt f.type).k) = true → F.mapM (fun f => (E.P.info? f.type).map fun i => (f.offset, i.size)) = some (F.map fun f => (f.offset, (E.tt f.type).sz))
  | [], _ => rfl
  | f :: F, h => by
    simp only [List.all_cons, Bool.and_eq_true] at h
    obtain ⟨i, d, h1, _, h3⟩ := ti_of (nbad_iff.1 h.1)
    simp only [List.mapM_cons, Option.bind_eq_bind, Option.pure_def, h1, Option.map_some, Option.bind_some, places_run F h.2, List.map_cons]
    rw [h3]

/-- ALL THE OPERATIONS THAT ONLY RECKON OR READ. -/
theorem pv_sound (hp : HpAt s.h φ S w) (hev : ∀ x, RepV s.h φ S w (ev E s x) (a.eval x)) {o : Oper} {d : D} (h : pv E s o.op = some d) :
    ∃ v, (execOp a.eval o).run E.P w = .ok (.value v) w ∧ RepV s.h φ S w d v := by
  by_cases hb : ∃ t ps, o.op = .build t ps
  · obtain ⟨t, ⟨ps⟩, ho⟩ := hb
    rw [ho] at h
    have maps : ∀ ps : List (Nat × Operand), (ps.map fun p => (p.1, ev E s p.2)).map (·.1) = (ps.map fun p => (p.1, a.eval p.2)).map (·.1) ∧ RepVs s.h φ S w ((ps.map fun p => (p.1, ev E s p.2)).map (·.2)) ((ps.map fun p => (p.1, a.eval p.2)).map (·.2)) := fun ps => by
      refine ⟨by simp [List.map_map, Function.comp_def], ?_⟩
      simp only [List.map_map, Function.comp_def]
      induction ps with
      | nil => rfl
      | cons p ps ih => exact ⟨_, _, rfl, hev p.2, ih⟩
    obtain ⟨m1, m2⟩ := maps ps
    have hzero : ∀ z, (E.tt t).zero = .agg z → (E.tt t).k ≠ .bad → ∃ zv cs i, E.P.info? t = some i ∧ i.zero = some zv ∧ zv.cells = ⟨cs⟩ ∧ RepVs s.h φ S w z cs := fun z hz hk => by
      obtain ⟨i, d, h1, h2, h3⟩ := ti_of hk
      rw [h3] at hz
      simp only at hz
      cases hzz : i.zero with
      | none => rw [hzz] at hz; cases hz
      | some zv =>
        rw [hzz] at hz
        simp only [Option.map_some, Option.getD_some] at hz
        have := Rep0.toV (H := s.h) (φ := φ) _ _ (ofVal_rep (S := S) (w := w) zv)
        rw [hz] at this
        simp only [RepV] at this
        obtain ⟨cs, rfl, this⟩ := this
        exact ⟨_, cs, i, h1, hzz, rfl, this⟩
    simp only [pv] at h
    split at h
    · rename_i fs z hk hz
      split at h
      · cases h
      rename_i hnb
      obtain ⟨q, hq, h⟩ := bind_of h
      split at h
      · rename_i hall
        simp only [Option.some.injEq] at h
        subst h
        obtain ⟨zv, cs, i, hi, hzz, hcs, hrep⟩ := hzero z hz (by rw [hk]; simp)
        obtain ⟨F, hu, rfl⟩ := und_strct hk
        obtain ⟨cs', g1, g2⟩ := over_rep _ _ _ _ _ _ m1 m2 hq hrep hall
        refine ⟨.agg ⟨cs'⟩, ?_, by simp only [RepV]; exact ⟨_, rfl, g2⟩⟩
        have hb : E.P.built t (ps.map fun p => (p.1, a.eval p.2)) = some ⟨cs'⟩ := by
          unfold Program.built
          simp only [hi, hu, hzz, places_run F.toList (by simpa [List.all_map, Function.comp_def] using hnb), hcs]
          rw [List.map_map] at g1
          simpa [Function.comp_def] using g1
        have := run_build (P := E.P) w t ⟨ps.map fun p => (p.1, a.eval p.2)⟩ ⟨cs'⟩ hb
        simp [execOp, ho, this]
      · cases h
    · rename_i n e z hk hz
      split at h
      · cases h
      rename_i hnb
      obtain ⟨q, hq, h⟩ := bind_of h
      split at h
      · rename_i hall
        simp only [Option.some.injEq] at h
        subst h
        obtain ⟨zv, cs, i, hi, hzz, hcs, hrep⟩ := hzero z hz (by rw [hk]; simp)
        obtain ⟨cs', g1, g2⟩ := over_rep _ _ _ _ _ _ m1 m2 hq hrep hall
        refine ⟨.agg ⟨cs'⟩, ?_, by simp only [RepV]; exact ⟨_, rfl, g2⟩⟩
        obtain ⟨ie, de, e1, e2, e3⟩ := ti_of (nbad_iff.1 (by simpa using hnb))
        have hb : E.P.built t (ps.map fun p => (p.1, a.eval p.2)) = some ⟨cs'⟩ := by
          unfold Program.built
          simp only [hi, und_arr hk, hzz, e1, hcs]
          refine fill_mono (fun i x hx => ?_) _ _ _ g1
          have hsz : (E.tt e).sz = ie.size := by rw [e3]
          simp only [List.map_map, List.getElem?_map, Option.map_eq_some_iff, Function.comp_def] at hx
          obtain ⟨j, hj, rfl⟩ := hx
          obtain ⟨_, hj⟩ := List.getElem?_eq_some_iff.1 hj
          simp only [List.getElem_range] at hj
          subst hj
          rw [hsz]
        have := run_build (P := E.P) w t ⟨ps.map fun p => (p.1, a.eval p.2)⟩ ⟨cs'⟩ hb
        simp [execOp, ho, this]
      · cases h
    · cases h
  · exact pv_sound0 hp hev h fun t ps e => hb ⟨t, ps, e⟩
end

end Go.Proofs.YtmcinfbckdiaoaaGreatDoor.Lv

set_option linter.unusedVariables false
set_option linter.unusedSimpArgs false
namespace Go.Proofs.YtmcinfbckdiaoaaGreatDoor.Lv
open Go Go.RowKit

def upd (e : Nat → D) (t : Nat) (d : D) : Nat → D := fun t' => if t' = t then d else e t'
def St.put (s : St) (dst : Option Nat) (d : D) : St := match dst with
  | some t => ⟨upd s.e t d, s.h, s.nx⟩
  | none => s
theorem St.put_h (s : St) (dst : Option Nat) (d : D) : (s.put dst d).h = s.h := by cases dst <;> rfl
theorem St.put_nx (s : St) (dst : Option Nat) (d : D) : (s.put dst d).nx = s.nx := by cases dst <;> rfl
mutual
/-- A value as another sees it, to whom these blocks, under these numbers, are known: the others' rows are only to be read. -/
def imp (ρ : Nat → Option Nat) (h : Hp) : D → D
  | .sl b ver off n => match ρ b with
    | some i => .sl i ver off n
    | none => match lookB h b with
      | some (.row _ ver' ag sz _ f) => if ver = ver' then .ro ag sz n fun i => f (off + i) else .unk
      | _ => .unk
  | .ad b off => match ρ b with
    | some i => .ad i off
    | none => .unk
  | .el b ver j fo => match ρ b with
    | some i => .el i ver j fo
    | none => .unk
  | .vs b off esz n => match ρ b with
    | some i => .vs i off esz n
    | none => .unk
  | .agg cs => .agg (imps ρ h cs)
  | .fn f cs => .fn f (imps ρ h cs)
  | .tup cs => .tup (imps ρ h cs)
  | d => d
def imps (ρ : Nat → Option Nat) (h : Hp) : List D → List D
  | [] => []
  | d :: ds => imp ρ h d :: imps ρ h ds
end
def impB (ρ : Nat → Option Nat) (h : Hp) : Blk → Blk
  | .var ag sz d => .var ag sz (imp ρ h d)
  | x => x
mutual
/-- The rows that it leads to, of those that are not known there. -/
def refs (ρ : Nat → Option Nat) : D → List Nat
  | .sl b _ _ _ => match ρ b with
    | some _ => []
    | none => [b]
  | .agg cs | .fn _ cs | .tup cs => refss ρ cs
  | _ => []
def refss (ρ : Nat → Option Nat) : List D → List Nat
  | [] => []
  | d :: ds => refs ρ d ++ refss ρ ds
end
def refB (ρ : Nat → Option Nat) : Option Blk → List Nat
  | some (.var _ _ d) => refs ρ d
  | _ => []
mutual
/-- Does it lead to no memory at all? -/
def flat : D → Bool
  | .sl .. | .ad .. | .el .. | .vs .. | .ro .. | .ra .. => false
  | .agg cs | .fn _ cs | .tup cs => flats cs
  | _ => true
def flats : List D → Bool
  | [] => true
  | d :: ds => flat d && flats ds
end
/-- Rows frozen. -/
def frz (bs : List Nat) : Hp → Hp
  | [] => []
  | (b, .row fz ver ag sz n f) :: r => (b, .row (fz || bs.contains b) ver ag sz n f) :: frz bs r
  | (b, .var ag sz d) :: r => (b, .var ag sz d) :: frz bs r
def St.frz (s : St) (bs : List Nat) : St := ⟨s.e, Lv.frz bs s.h, s.nx⟩
mutual
/-- Blocks named anew. -/
def exD (r : Nat → Nat) : D → D
  | .sl b ver off n => .sl (r b) ver off n
  | .ad b off => .ad (r b) off
  | .el b ver j fo => .el (r b) ver j fo
  | .vs b off esz n => .vs (r b) off esz n
  | .agg cs => .agg (exDs r cs)
  | .fn f cs => .fn f (exDs r cs)
  | .tup cs => .tup (exDs r cs)
  | d => d
def exDs (r : Nat → Nat) : List D → List D
  | [] => []
  | d :: ds => exD r d :: exDs r ds
end
def exB (r : Nat → Nat) : Blk → Blk
  | .var ag sz d => .var ag sz (exD r d)
  | x => x
def pos : List Nat → Nat → Option Nat
  | [], _ => none
  | x :: r, b => if b = x then some 0 else (pos r b).map (· + 1)
/-- The given blocks, as the callee sees them. -/
def impH (ρ : Nat → Option Nat) (h : Hp) : List Nat → Nat → Hp
  | [], _ => []
  | b :: r, i => match lookB h b with
    | some x => (i, impB ρ h x) :: impH ρ h r (i + 1)
    | none => impH ρ h r (i + 1)
/-- What comes back. -/
def mrg (r : Nat → Nat) (k : Nat) : Hp → Hp → Hp
  | [], h => h
  | (i, y) :: rest, h => if i < k then up (mrg r k rest h) (r i) (exB r y) else (r i, exB r y) :: mrg r k rest h
def ex (bs : List Nat) (nx : Nat) (i : Nat) : Nat := if i < bs.length then bs.getD i 0 else nx + i
/-- May these blocks be given away? -/
def givOk (h : Hp) : List Nat → Bool
  | [] => true
  | b :: r => (match lookB h b with
    | some (.row fz _ _ _ _ _) => !fz
    | some (.var _ _ _) => true
    | none => false) && !r.contains b && givOk h r

section
variable {B : Base} {s : St} {φ : Ph} {S : Nat → Prop} {a : Act} {w : World}

theorem Rel.put (hr : Rel B s φ S a w) {d : D} {v : Value} (hv : RepV s.h φ S w d v) {dst : Option Nat} (hd : ∀ t, dst = some t → t < B.N) : Rel B (s.put dst d) φ S (a.put dst v) w := by
  cases dst with
  | none => exact hr
  | some t =>
    have ht := hd t rfl
    refine ⟨fun i => ?_, by simpa [Act.put] using hr.size, hr.hp, hr.nx, hr.slt, hr.plt, hr.old, hr.s0, hr.s1, hr.below, hr.ext, hr.nx0, hr.def0⟩
    simp only [St.put, upd, Act.put]
    by_cases h : i = t
    · subst h
      simp only [if_true]
      rw [Array.getD_eq_getD_getElem?, Array.getElem?_setIfInBounds_self_of_lt (by rw [hr.size]; exact ht)]
      exact hv
    · rw [if_neg h, Array.getD_eq_getD_getElem?, Array.getElem?_setIfInBounds_ne (Ne.symm h), ← Array.getD_eq_getD_getElem?]
      exact hr.env i

/-- The world has gone on, and more of it stays. -/
theorem Rel.later (hr : Rel B s φ S a w) {S' : Nat → Prop} {w' : World} (hb : Below w.heap.size w w') (h1 : ∀ b, S b → S' b) (h2 : ∀ b, S' b → b < w'.heap.size) (h3 : ∀ b, S' b → b < w.heap.size → S b) : Rel B s φ S' a w' := by
  have hk : Kept S w w' := fun b hS => hb.block b (hr.slt b hS)
  have hx := HpExt.refl s.h φ
  refine ⟨fun i => RepV.mono hx hk h1 _ _ (hr.env i), hr.size, ⟨fun b x hl => ?_, hr.hp.inj⟩, hr.nx, h2, fun b x c t hl hp => Nat.lt_of_lt_of_le (hr.plt b x c t hl hp) hb.size, hr.old, fun b h => h1 b (hr.s0 b h), fun b h hlt => hr.s1 b (h3 b h (Nat.lt_of_lt_of_le hlt hr.below.size)) hlt, ⟨hb.os.trans hr.below.os, hb.tape.trans hr.below.tape, hb.output.trans hr.below.output, Nat.le_trans hr.below.size hb.size, fun k hk hG => (hb.block k (Nat.lt_of_lt_of_le hk hr.below.size)).trans (hr.below.block k hk hG)⟩, hr.ext, hr.nx0, hr.def0.move fun D hD _ hS ho => ⟨hb.block D hD, fun h => hS (h3 D h hD), ho⟩⟩
  have hc : ∀ c t, φ b = some (c, t) → c < w.heap.size := fun c t hp => hr.plt b x c t hl hp
  have h := hr.hp.blk b x hl
  cases x with
  | var ag sz d =>
    obtain ⟨c, t, g1, g2, x, vs, e, lo, hi, g3, g4, g5, g6, g7⟩ := h
    exact ⟨c, t, g1, fun h => g2 (h3 c h (hc c t g1)), x, vs, e, lo, hi, (hb.block c (hc c t g1)).trans g3, g4, g5, g6, RepV.mono hx hk h1 _ _ g7⟩
  | row fz ver ag sz n f =>
    refine ⟨h.1, fun c tot e => ?_⟩
    obtain ⟨g1, g2, g3, g4, vs, ty, lo, hi, g5, g6, g7, g8⟩ := h.2 c tot e
    refine ⟨fun hf h => g1 hf (h3 c h (hc c tot e)), fun hf => h1 c (g2 hf), g3, g4, vs, ty, lo, hi, (hb.block c (hc c tot e)).trans g5, g6, g7, fun i hi => ?_⟩
    obtain ⟨x, k1, k2⟩ := g8 i hi
    exact ⟨x, k1, Rep0.mono hk h1 _ _ k2⟩
theorem Rel.drawn (hr : Rel B s φ S a w) (n : Nat) : Rel B s φ S a { w with drawn := n } :=
  hr.later (w' := { w with drawn := n }) ⟨rfl, rfl, rfl, Nat.le_refl _, fun _ _ => rfl⟩ (fun _ h => h) hr.slt (fun _ h _ => h)

/-- What stays once these rows are frozen. -/
def Fz (h : Hp) (φ : Ph) (S : Nat → Prop) (bs : List Nat) (c : Nat) : Prop := S c ∨ ∃ b, b ∈ bs ∧ ∃ fz ver ag sz n f t, lookB h b = some (.row fz ver ag sz n f) ∧ φ b = some (c, t)
theorem lookB_frz (bs : List Nat) : ∀ (h : Hp) (b : Nat), lookB (frz bs h) b = match lookB h b with
    | some (.row fz ver ag sz n f) => some (.row (fz || bs.contains b) ver ag sz n f)
    | x => x
  | [], b => rfl
  | (c, .var ag sz d) :: r, b => by
    simp only [frz, lookB]
    by_cases h : b = c
    · simp [h]
    · simp only [if_neg h]; exact lookB_frz bs r b
  | (c, .row fz ver ag sz n f) :: r, b => by
    simp only [frz, lookB]
    by_cases h : b = c
    · simp [h]
    · simp only [if_neg h]; exact lookB_frz bs r b
theorem frz_ext (bs : List Nat) (h : Hp) (φ : Ph) : HpExt h φ (frz bs h) φ := fun b => ⟨fun ag sz d h => ⟨⟨d, by rw [lookB_frz, h]⟩, rfl⟩, fun fz ver ag sz m f h => ⟨_, ver, m, f, by rw [lookB_frz, h], Nat.le_refl _, fun _ => ⟨Nat.le_refl _, rfl⟩⟩⟩
theorem Rel.frz (hr : Rel B s φ S a w) (bs : List Nat) : Rel B (s.frz bs) φ (Fz s.h φ S bs) a w := by
  have hx : HpExt s.h φ (Lv.frz bs s.h) φ := frz_ext bs s.h φ
  have hk : Kept S w w := fun _ _ => rfl
  have hs : ∀ b, S b → Fz s.h φ S bs b := fun b h => .inl h
  have hsome : ∀ b x, lookB (Lv.frz bs s.h) b = some x → ∃ y, lookB s.h b = some y := fun b x h => by
    rw [lookB_frz] at h
    cases hl : lookB s.h b with
    | none => rw [hl] at h; cases h
    | some y => exact ⟨y, rfl⟩
  refine ⟨fun i => RepV.mono hx hk hs _ _ (hr.env i), hr.size, ⟨fun b x hl => ?_, fun b b' x x' c t t' l l' p p' => ?_⟩, fun b x hl => ?_, fun c h => ?_, fun b x c t hl hp => ?_, fun b x c t hl hp => ?_, fun b h => hs b (hr.s0 b h), fun c h hlt => ?_, hr.below, hr.ext.trans hx (fun b hb => ?_), hr.nx0, hr.def0.move fun D hD _ hS ho => ⟨rfl, fun h => ?_, fun b x c t l p => ?_⟩⟩
  · cases hy : lookB s.h b with
    | none =>
      simp only [St.frz] at hl
      rw [lookB_frz, hy] at hl
      cases hl
    | some y =>
      have h := hr.hp.blk b y hy
      simp only [St.frz] at hl
      rw [lookB_frz, hy] at hl
      cases y with
      | var ag sz d =>
        simp only [Option.some.injEq] at hl
        subst hl
        obtain ⟨c, t, g1, g2, x, vs, e, lo, hi, g3, g4, g5, g6, g7⟩ := h
        refine ⟨c, t, g1, ?_, x, vs, e, lo, hi, g3, g4, g5, g6, RepV.mono hx hk hs _ _ g7⟩
        rintro (h | ⟨b', hb', fz, ver, ag', sz', n, f, t', l', p'⟩)
        · exact g2 h
        · obtain rfl := hr.hp.inj b b' _ _ c t t' hy l' g1 p'
          rw [hy] at l'
          cases l'
      | row fz ver ag sz n f =>
        simp only [Option.some.injEq] at hl
        subst hl
        refine ⟨h.1, fun c tot e => ?_⟩
        obtain ⟨g1, g2, g3, g4, vs, ty, lo, hi, g5, g6, g7, g8⟩ := h.2 c tot e
        refine ⟨fun hf => ?_, fun hf => ?_, g3, g4, vs, ty, lo, hi, g5, g6, g7, fun i hi => ?_⟩
        · simp only [Bool.or_eq_false_iff] at hf
          rintro (h | ⟨b', hb', fz', ver', ag', sz', n', f', t', l', p'⟩)
          · exact g1 hf.1 h
          · obtain rfl := hr.hp.inj b b' _ _ c tot t' hy l' e p'
            have := hf.2
            simp [hb'] at this
        · simp only [Bool.or_eq_true] at hf
          rcases hf with hf | hf
          · exact .inl (g2 hf)
          · exact .inr ⟨b, by simpa using hf, fz, ver, ag, sz, n, f, tot, hy, e⟩
        · obtain ⟨x, k1, k2⟩ := g8 i hi
          exact ⟨x, k1, Rep0.mono hk hs _ _ k2⟩
  · obtain ⟨y, hy⟩ := hsome b x l
    obtain ⟨y', hy'⟩ := hsome b' x' l'
    exact hr.hp.inj b b' y y' c t t' hy hy' p p'
  · obtain ⟨y, hy⟩ := hsome b x hl
    exact hr.nx b y hy
  · rcases h with h | ⟨b', hb', fz', ver', ag', sz', n', f', t', l', p'⟩
    · exact hr.slt c h
    · exact hr.plt b' _ c t' l' p'
  · obtain ⟨y, hy⟩ := hsome b x hl
    exact hr.plt b y c t hy hp
  · obtain ⟨y, hy⟩ := hsome b x hl
    exact hr.old b y c t hy hp
  · rcases h with h | ⟨b', hb', fz', ver', ag', sz', n', f', t', l', p'⟩
    · exact hr.s1 c h hlt
    · exact .inr ((hr.old b' _ c t' l' p').resolve_left (by omega))
  · obtain ⟨y, hy⟩ := Option.isSome_iff_exists.1 hb
    obtain ⟨x, hx⟩ := hsome b y hy
    exact .inl (by rw [hx]; rfl)
  · rcases h with h | ⟨b', hb', fz', ver', ag', sz', n', f', t', l', p'⟩
    · exact hS h
    · exact ho b' _ D t' l' p' rfl
  · obtain ⟨y, hy⟩ := hsome b x l
    exact ho b y c t hy p
end

section
variable {h h2 : Hp} {φ φ2 : Ph} {S : Nat → Prop} {w : World} {ρ : Nat → Option Nat} {fs : List Nat}
mutual
theorem imp_rep (hp : HpAt h φ S w) (hρ : ∀ b i, ρ b = some i → ∀ x, lookB h b = some x → lookB h2 i = some (impB ρ h x) ∧ φ2 i = φ b) :
    ∀ (d : D) (v : Value), RepV h φ S w d v → (∀ b, b ∈ refs ρ d → b ∈ fs) → RepV h2 φ2 (Fz h φ S fs) w (imp ρ h d) v
  | .int .., _, h, _ | .bool .., _, h, _ | .str .., _, h, _ | .nilp, _, h, _ | .nils, _, h, _ | .nilm, _, h, _ | .nilf, _, h, _ | .gl .., _, h, _ | .unk, _, h, _ | .ro .., _, h, _ | .ra .., _, h, _ => by
    simp only [RepV, imp] at h ⊢
    exact Rep0.mono (fun _ _ => rfl) (fun b h => .inl h) _ _ h
  | .ad b off, v, hv, _ => by
    simp only [imp]
    cases hb : ρ b with
    | none => simp [RepV, Rep0]
    | some i =>
      simp only [RepV] at hv ⊢
      obtain ⟨ag, sz, d, c, t, hl, hph, e⟩ := hv
      obtain ⟨h1, h2⟩ := hρ b i hb _ hl
      exact ⟨ag, sz, imp ρ h d, c, t, h1, h2.trans hph, e⟩
  | .el b ver j fo, v, hv, _ => by
    simp only [imp]
    cases hb : ρ b with
    | none => simp [RepV, Rep0]
    | some i =>
      simp only [RepV] at hv ⊢
      obtain ⟨fz, ver', ag, sz, m, f, hl, hv, hh⟩ := hv
      obtain ⟨h1, h2⟩ := hρ b i hb _ hl
      refine ⟨fz, ver', ag, sz, m, f, h1, hv, fun e => ?_⟩
      rw [h2]
      exact hh e
  | .vs b off esz n, v, hv, _ => by
    simp only [imp]
    cases hb : ρ b with
    | none => simp [RepV, Rep0]
    | some i =>
      simp only [RepV] at hv ⊢
      obtain ⟨ag, sz, d, c, t, a, cap, hl, hph, e⟩ := hv
      obtain ⟨h1, h2⟩ := hρ b i hb _ hl
      exact ⟨ag, sz, imp ρ h d, c, t, a, cap, h1, h2.trans hph, e⟩
  | .agg cs, v, hv, hb => by
    simp only [RepV, imp, refs] at hv hb ⊢
    obtain ⟨vs, e, hv⟩ := hv
    exact ⟨vs, e, imps_rep hp hρ cs vs hv hb⟩
  | .tup cs, v, hv, hb => by
    simp only [RepV, imp, refs] at hv hb ⊢
    obtain ⟨vs, e, hv⟩ := hv
    exact ⟨vs, e, imps_rep hp hρ cs vs hv hb⟩
  | .fn f cs, v, hv, hb => by
    simp only [RepV, imp, refs] at hv hb ⊢
    obtain ⟨vs, e, hv⟩ := hv
    exact ⟨vs, e, imps_rep hp hρ cs vs hv hb⟩
  | .sl b ver off n, v, hv, hb => by
    simp only [RepV] at hv
    obtain ⟨fz, ver', ag, sz, m, f, hl, hver, hv⟩ := hv
    simp only [imp]
    cases hρb : ρ b with
    | some i =>
      simp only [RepV]
      obtain ⟨h1, h2⟩ := hρ b i hρb _ hl
      refine ⟨fz, ver', ag, sz, m, f, h1, hver, fun e => ?_⟩
      rw [h2]
      exact hv e
    | none =>
      simp only [hl]
      by_cases e : ver = ver'
      · rw [if_pos e]
        obtain ⟨h1, a, cap, rfl, h2, h3, h4⟩ := hv e
        simp only [RepV, Rep0]
        have hblk := hp.blk b _ hl
        refine ⟨a, cap, rfl, h2, ?_, fun hn => ?_⟩
        · cases hp' : φ b with
          | none => rw [(h3 hp').2]; omega
          | some q =>
            obtain ⟨c, tot⟩ := q
            have := (h4 c tot hp').1
            have := (hblk.2 c tot hp').2.2.1
            omega
        · cases hp' : φ b with
          | none => have := hblk.1 hp'; omega
          | some q =>
            obtain ⟨c, tot⟩ := q
            obtain ⟨k1, k2, k3⟩ := h4 c tot hp'
            obtain ⟨_, _, htot, hm, vs, ty, lo, hi, hheap, hlen, ⟨_, h1c⟩, hels⟩ := hblk.2 c tot hp'
            refine ⟨c, off * sz, k3 (by omega), .inr ⟨b, hb b (by simp [refs, hρb]), fz, ver', ag, sz, m, f, tot, hl, hp'⟩, fun i hi => ?_⟩
            obtain ⟨x, g1, g2⟩ := hels (off + i) (by omega)
            refine ⟨x, (vs.drop ((off + i) * sz)).take sz, ?_, ?_, g1, Rep0.mono (fun _ _ => rfl) (fun b h => .inl h) _ _ g2⟩
            · have : (off + i) * sz + sz ≤ tot * sz := by
                have := Nat.mul_le_mul_right sz (show off + i + 1 ≤ tot by omega)
                rw [Nat.add_mul] at this
                omega
              rw [List.length_take, List.length_drop, hlen]
              omega
            · have := (At.of_heap hheap h1c).part ((off + i) * sz) sz
              rw [Nat.zero_add, Nat.add_mul] at this
              simpa [Nat.add_mul] using this
      · rw [if_neg e]
        simp [RepV, Rep0]
theorem imps_rep (hp : HpAt h φ S w) (hρ : ∀ b i, ρ b = some i → ∀ x, lookB h b = some x → lookB h2 i = some (impB ρ h x) ∧ φ2 i = φ b) :
    ∀ (ds : List D) (vs : List Value), RepVs h φ S w ds vs → (∀ b, b ∈ refss ρ ds → b ∈ fs) → RepVs h2 φ2 (Fz h φ S fs) w (imps ρ h ds) vs
  | [], vs, h, _ => by simpa [RepVs, imps] using h
  | d :: ds, vs, h, hb => by
    simp only [RepVs, imps, refss, List.mem_append] at h hb ⊢
    obtain ⟨v, vs', e, h1, h2⟩ := h
    exact ⟨v, vs', e, imp_rep hp hρ d v h1 (fun b h => hb b (.inl h)), imps_rep hp hρ ds vs' h2 (fun b h => hb b (.inr h))⟩
end
/-- The blocks, seen so. -/
theorem imp_hp (hp : HpAt h φ S w) (hρ : ∀ b i, ρ b = some i → ∀ x, lookB h b = some x → lookB h2 i = some (impB ρ h x) ∧ φ2 i = φ b)
    (hback : ∀ i y, lookB h2 i = some y → ∃ b x, ρ b = some i ∧ lookB h b = some x ∧ y = impB ρ h x) (hfs : ∀ b, b ∈ fs → ρ b = none)
    (hrf : ∀ b i ag sz d, ρ b = some i → lookB h b = some (.var ag sz d) → ∀ b', b' ∈ refs ρ d → b' ∈ fs) : HpAt h2 φ2 (Fz h φ S fs) w := by
  have nofs : ∀ b i x c t, ρ b = some i → lookB h b = some x → φ b = some (c, t) → ¬ S c → ¬ Fz h φ S fs c := by
    rintro b i x c t h1 h2 h3 h4 (h | ⟨b', hb', fz', ver', ag', sz', n', f', t', l', p'⟩)
    · exact h4 h
    · obtain rfl := hp.inj b b' _ _ c t t' h2 l' h3 p'
      rw [hfs b hb'] at h1
      cases h1
  refine ⟨fun i y hl => ?_, fun i i' y y' c t t' l l' p p' => ?_⟩
  · obtain ⟨b, x, h1, h2, rfl⟩ := hback i y hl
    obtain ⟨_, h3⟩ := hρ b i h1 x h2
    have hx := hp.blk b x h2
    cases x with
    | var ag sz d =>
      obtain ⟨c, t, g1, g2, x, vs, e, lo, hi, g3, g4, g5, g6, g7⟩ := hx
      exact ⟨c, t, h3.trans g1, nofs b i _ c t h1 h2 g1 g2, x, vs, e, lo, hi, g3, g4, g5, g6, imp_rep hp hρ _ _ g7 (hrf b i ag sz d h1 h2)⟩
    | row fz ver ag sz n f =>
      refine ⟨fun e => hx.1 (h3.symm.trans e), fun c tot e => ?_⟩
      have e' := h3.symm.trans e
      obtain ⟨g1, g2, g3, g4, vs, ty, lo, hi, g5, g6, g7, g8⟩ := hx.2 c tot e'
      refine ⟨fun hf => nofs b i _ c tot h1 h2 e' (g1 hf), fun hf => .inl (g2 hf), g3, g4, vs, ty, lo, hi, g5, g6, g7, fun i hi => ?_⟩
      obtain ⟨x, k1, k2⟩ := g8 i hi
      exact ⟨x, k1, Rep0.mono (fun _ _ => rfl) (fun b h => .inl h) _ _ k2⟩
  · obtain ⟨b, x, h1, h2, rfl⟩ := hback i y l
    obtain ⟨b', x', h1', h2', rfl⟩ := hback i' y' l'
    have e1 := (hρ b i h1 x h2).2.symm.trans p
    have e2 := (hρ b' i' h1' x' h2').2.symm.trans p'
    obtain rfl := hp.inj b b' x x' c t t' h2 h2' e1 e2
    rw [h1] at h1'
    exact Option.some.inj h1'
end

section
variable {h h2 : Hp} {φ φ2 : Ph} {S : Nat → Prop} {w : World} {r : Nat → Nat}
mutual
theorem ex_rep (hr : ∀ i y, lookB h i = some y → lookB h2 (r i) = some (exB r y) ∧ φ2 (r i) = φ i) : ∀ (d : D) (v : Value), RepV h φ S w d v → RepV h2 φ2 S w (exD r d) v
  | .int .., _, h | .bool .., _, h | .str .., _, h | .nilp, _, h | .nils, _, h | .nilm, _, h | .nilf, _, h | .gl .., _, h | .unk, _, h | .ro .., _, h | .ra .., _, h => by
    simpa only [RepV, exD] using h
  | .ad b off, v, hv => by
    simp only [exD, RepV] at hv ⊢
    obtain ⟨ag, sz, d, c, t, hl, hph, e⟩ := hv
    obtain ⟨h1, h2⟩ := hr b _ hl
    exact ⟨ag, sz, exD r d, c, t, h1, h2.trans hph, e⟩
  | .el b ver j fo, v, hv => by
    simp only [exD, RepV] at hv ⊢
    obtain ⟨fz, ver', ag, sz, m, f, hl, hv, hh⟩ := hv
    obtain ⟨h1, h2⟩ := hr b _ hl
    refine ⟨fz, ver', ag, sz, m, f, h1, hv, fun e => ?_⟩
    rw [h2]
    exact hh e
  | .sl b ver off n, v, hv => by
    simp only [exD, RepV] at hv ⊢
    obtain ⟨fz, ver', ag, sz, m, f, hl, hver, hv⟩ := hv
    obtain ⟨h1, h2⟩ := hr b _ hl
    refine ⟨fz, ver', ag, sz, m, f, h1, hver, fun e => ?_⟩
    rw [h2]
    exact hv e
  | .vs b off esz n, v, hv => by
    simp only [exD, RepV] at hv ⊢
    obtain ⟨ag, sz, d, c, t, a, cap, hl, hph, e⟩ := hv
    obtain ⟨h1, h2⟩ := hr b _ hl
    exact ⟨ag, sz, exD r d, c, t, a, cap, h1, h2.trans hph, e⟩
  | .agg cs, v, hv => by
    simp only [RepV, exD] at hv ⊢
    obtain ⟨vs, e, hv⟩ := hv
    exact ⟨vs, e, exs_rep hr cs vs hv⟩
  | .tup cs, v, hv => by
    simp only [RepV, exD] at hv ⊢
    obtain ⟨vs, e, hv⟩ := hv
    exact ⟨vs, e, exs_rep hr cs vs hv⟩
  | .fn f cs, v, hv => by
    simp only [RepV, exD] at hv ⊢
    obtain ⟨vs, e, hv⟩ := hv
    exact ⟨vs, e, exs_rep hr cs vs hv⟩
theorem exs_rep (hr : ∀ i y, lookB h i = some y → lookB h2 (r i) = some (exB r y) ∧ φ2 (r i) = φ i) : ∀ (ds : List D) (vs : List Value), RepVs h φ S w ds vs → RepVs h2 φ2 S w (exDs r ds) vs
  | [], vs, h => by simpa only [RepVs, exDs] using h
  | d :: ds, vs, h => by
    simp only [RepVs, exDs] at h ⊢
    obtain ⟨v, vs', e, h1, h2⟩ := h
    exact ⟨v, vs', e, ex_rep hr d v h1, exs_rep hr ds vs' h2⟩
end
theorem ex_blk (hr : ∀ i y, lookB h i = some y → lookB h2 (r i) = some (exB r y) ∧ φ2 (r i) = φ i) {i : Nat} {y : Blk} (hl : lookB h i = some y) (hb : BlkAt h φ S w i y) : BlkAt h2 φ2 S w (r i) (exB r y) := by
  obtain ⟨_, h3⟩ := hr i y hl
  cases y with
  | var ag sz d =>
    obtain ⟨c, t, g1, g2, x, vs, e, lo, hi, g3, g4, g5, g6, g7⟩ := hb
    exact ⟨c, t, h3.trans g1, g2, x, vs, e, lo, hi, g3, g4, g5, g6, ex_rep hr _ _ g7⟩
  | row fz ver ag sz n f =>
    exact ⟨fun e => hb.1 (h3.symm.trans e), fun c tot e => hb.2 c tot (h3.symm.trans e)⟩
theorem mrg_in (hinj : ∀ i j, r i = r j → i = j) {k : Nat} : ∀ (h' : Hp) (h : Hp), (∀ i, i < k → (lookB h (r i)).isSome = true) → ∀ i y, lookB h' i = some y → lookB (mrg r k h' h) (r i) = some (exB r y)
  | [], h, hk, i, y, hl => by cases hl
  | (j, z) :: rest, h, hk, i, y, hl => by
    have hsome : ∀ (h' : Hp) i, i < k → (lookB (mrg r k h' h) (r i)).isSome = true := by
      intro h'
      induction h' with
      | nil => exact hk
      | cons p rest ih =>
        intro i hi
        obtain ⟨j, z⟩ := p
        simp only [mrg]
        split
        · rw [lookB_up]
          split
          · rfl
          · exact ih i hi
        · simp only [lookB]
          split
          · rfl
          · exact ih i hi
    simp only [lookB] at hl
    simp only [mrg]
    by_cases e : i = j
    · subst e
      rw [if_pos rfl] at hl
      cases hl
      split
      · rename_i hlt
        rw [lookB_up, if_pos ⟨rfl, hsome rest i hlt⟩]
      · simp [lookB]
    · rw [if_neg e] at hl
      have hne : r i ≠ r j := fun h => e (hinj _ _ h)
      have ih := mrg_in hinj rest h hk i y hl
      split
      · rw [lookB_up, if_neg (fun h => hne h.1)]
        exact ih
      · simp only [lookB, if_neg hne]
        exact ih
theorem mrg_out {k : Nat} {b : Nat} : ∀ (h' : Hp) (h : Hp), (∀ i y, lookB h' i = some y → b ≠ r i) → lookB (mrg r k h' h) b = lookB h b
  | [], h, _ => rfl
  | (j, z) :: rest, h, hb => by
    have h0 : b ≠ r j := hb j z (by simp [lookB])
    have ih : lookB (mrg r k rest h) b = lookB h b := by
      by_cases hall : ∀ i y, lookB rest i = some y → b ≠ r i
      · exact mrg_out rest h hall
      · exfalso
        refine hall fun i y hl e => ?_
        by_cases e2 : i = j
        · subst e2; exact h0 e
        · exact hb i y (by simp [lookB, e2, hl]) e
    simp only [mrg]
    split
    · rw [lookB_up, if_neg (fun h => h0 h.1)]
      exact ih
    · simp only [lookB, if_neg h0]
      exact ih
end

end Go.Proofs.YtmcinfbckdiaoaaGreatDoor.Lv

set_option linter.unusedVariables false
set_option linter.unusedSimpArgs false
namespace Go.Proofs.YtmcinfbckdiaoaaGreatDoor.Lv
open Go Go.RowKit

def fnOk (P : Program) (f : FuncId) : Bool := match P.funcs[f]? with
  | some fn => fn.body.isSome && !(fn.name == "runtime.NumGoroutine")
  | none => false
def GOK (E : Ctx) (S : Nat → Prop) (w : World) : Prop := ∀ g, Rep0 S w (E.gv g) (.pointer (some ⟨g, 0, none⟩))
/-- The places of these blocks. -/
def GB (h : Hp) (φ : Ph) (c : Nat) : Prop := ∃ b x t, lookB h b = some x ∧ φ b = some (c, t)
/-- A FUNCTION'S CONTRACT: of these arguments, and of these blocks that it is given, it makes this, and leaves the blocks so. -/
def CG (E : Ctx) (f : FuncId) (args : List D) (h : Hp) (d : D) (h' : Hp) : Prop :=
  fnOk E.P f = true ∧ ∀ (S : Nat → Prop) (w : World) (vs : List Value) (φ : Ph), (∀ b, S b → b < w.heap.size) → GOK E S w → HpAt h φ S w → (∀ c, GB h φ c → c < w.heap.size ∧ ¬ S c) → RepVs h φ S w args vs →
    Calls E.P f ⟨vs⟩ w (fun e w' => ∃ v S' φ', e = .returned v ∧ RepV h' φ' S' w' d v ∧ HpAt h' φ' S' w' ∧ HpExt h φ h' φ' ∧ (∀ c, GB h' φ' c → c < w'.heap.size ∧ (w.heap.size ≤ c ∨ GB h φ c)) ∧ Trod (GB h φ) w w' ∧
      (∀ b, S b → S' b) ∧ (∀ b, S' b → b < w'.heap.size) ∧ ∀ b, S' b → b < w.heap.size → S b ∨ GB h φ b)
/-- One that is given no blocks. -/
abbrev C (E : Ctx) (f : FuncId) (args : List D) (d : D) : Prop := CG E f args [] d []

def KP (K : St → Prop) (s : St) (dst : Option Nat) (d : D) : Prop := K (s.put dst d)
def KT (K : St → Prop) (dst : Option Nat) (d : D) (s : St) : Prop := K (s.put dst d)
def ork (x : Option D) (K : D → Prop) (F : Prop) : Prop := match x with
  | some d => K d
  | none => F
def fsOf (s : St) (bs : List Nat) (ds : List D) : List Nat := refss (pos bs) ds ++ bs.flatMap fun b => refB (pos bs) (lookB s.h b)
def aft (s : St) (bs fs : List Nat) (h' : Hp) : St := ⟨s.e, mrg (ex bs s.nx) bs.length h' (frz fs s.h), s.nx + mx h'⟩
/-- A call: these blocks are given. -/
def CallX0 (E : Ctx) (g : FuncId) (ds : List D) (K : St → Prop) (s : St) (dst : Option Nat) : Prop :=
  ∃ bs d h', (E.give g = true ∨ bs = []) ∧ givOk s.h bs = true ∧ CG E g (imps (pos bs) s.h ds) (impH (pos bs) s.h bs 0) d h' ∧ K ((aft s bs (if flat d && h'.isEmpty then [] else fsOf s bs ds) h').put dst (exD (ex bs s.nx) d))
/-- Are these variables that lead nowhere? -/
def flatB (h : Hp) (bs : List Nat) : Bool := bs.all fun b => match lookB h b with
  | some (.var _ _ d) => flat d
  | _ => false
/-- A call that is lent these blocks, and leaves all as it was. -/
def CallR (E : Ctx) (g : FuncId) (ds : List D) (K : St → Prop) (s : St) (dst : Option Nat) : Prop :=
  ∃ bs d, givOk s.h bs = true ∧ flatB s.h bs = true ∧ flat d = true ∧ CG E g (imps (pos bs) s.h ds) (impH (pos bs) s.h bs 0) d (impH (pos bs) s.h bs 0) ∧ K (s.put dst d)
def CallX (E : Ctx) (g : FuncId) (ds : List D) (K : St → Prop) (s : St) (dst : Option Nat) : Prop := CallX0 E g ds K s dst ∨ CallR E g ds K s dst
/-- One operation that is wanted. -/
def AX (E : Ctx) (o : Oper) (K : St → Prop) (s : St) : Prop := match o.op with
  | .call { callee := .value f, args := ⟨xs⟩, .. } => match ev E s f with
    | .fn g cap => CallX E g (xs.map (ev E s) ++ cap) K s o.dst
    | _ => False
  | op => ork (pv E s op) (KP K s o.dst) (ef E s op (KT K o.dst))
def gd (d : D) (want : Bool) (A B : Prop) : Prop := match d with
  | .bool b => (b = want → A) ∧ (b ≠ want → B)
  | .tup _ => B
  | _ => False
/-- One operation. -/
def AT (E : Ctx) (all : Array Oper) (o : Oper) (K : St → Prop) (s : St) : Prop := match o.guard with
  | none => AX E o K s
  | some (g, want) => match (all[g]?).bind (·.dst) with
    | some t => gd (s.e t) want (AX E o K s) (K (s.put o.dst (.tup [])))
    | none => False
/-- A region's operations, in the order of the text. -/
def AR (E : Ctx) (all : Array Oper) : List Oper → (St → Prop) → St → Prop
  | [], K, s => K s
  | o :: os, K, s => AT E all o (AR E all os K) s

section
variable {E : Ctx} {B : Base} {s : St} {φ : Ph} {S : Nat → Prop} {a : Act} {w : World}
theorem Rel.ev (hr : Rel B s φ S a w) (hg : GOK E S w) (x : Operand) : RepV s.h φ S w (Lv.ev E s x) (a.eval x) := by
  cases x with
  | tmp t => simpa [Lv.ev, Act.eval] using hr.env t
  | const v => exact Rep0.toV _ _ (ofVal_rep v)
  | global g => exact Rep0.toV _ _ (hg g)
  | func f => simp [Lv.ev, Act.eval, RepV, RepVs]
theorem GOK.mono (hg : GOK E S w) {S' : Nat → Prop} {w' : World} (hk : Kept S w w') (hs : ∀ b, S b → S' b) : GOK E S' w' := fun g => Rep0.mono hk hs _ _ (hg g)

mutual
theorem flat_rep {S S' : Nat → Prop} {w : World} : ∀ (d : D) (v : Value), Rep0 S' w d v → flat d = true → Rep0 S w d v
  | .int .., _, h, _ | .bool .., _, h, _ | .str .., _, h, _ | .nilp, _, h, _ | .nils, _, h, _ | .nilm, _, h, _ | .nilf, _, h, _ | .gl .., _, h, _ | .unk, _, h, _ => by simp_all [Rep0]
  | .ro .., _, _, h | .ra .., _, _, h | .sl .., _, _, h | .ad .., _, _, h | .el .., _, _, h | .vs .., _, _, h => by simp [flat] at h
  | .agg cs, v, h, hc => by
    simp only [Rep0, flat] at h hc ⊢
    obtain ⟨vs, e, h⟩ := h
    exact ⟨vs, e, flats_rep cs vs h hc⟩
  | .tup cs, v, h, hc => by
    simp only [Rep0, flat] at h hc ⊢
    obtain ⟨vs, e, h⟩ := h
    exact ⟨vs, e, flats_rep cs vs h hc⟩
  | .fn f cs, v, h, hc => by
    simp only [Rep0, flat] at h hc ⊢
    obtain ⟨vs, e, h⟩ := h
    exact ⟨vs, e, flats_rep cs vs h hc⟩
theorem flats_rep {S S' : Nat → Prop} {w : World} : ∀ (ds : List D) (vs : List Value), Rep0s S' w ds vs → flats ds = true → Rep0s S w ds vs
  | [], vs, h, _ => by simpa [Rep0s] using h
  | d :: ds, vs, h, hc => by
    simp only [Rep0s, flats, Bool.and_eq_true] at h hc ⊢
    obtain ⟨v, vs', e, h1, h2⟩ := h
    exact ⟨v, vs', e, flat_rep d v h1 hc.1, flats_rep ds vs' h2 hc.2⟩
end
mutual
theorem flat_cl : ∀ (d : D), flat d = true → cl d = true ∧ ∀ r, exD r d = d
  | .int .., h | .bool .., h | .str .., h | .nilp, h | .nils, h | .nilm, h | .nilf, h | .gl .., h | .unk, h => ⟨rfl, fun _ => rfl⟩
  | .ro .., h | .ra .., h | .sl .., h | .ad .., h | .el .., h | .vs .., h => by simp [flat] at h
  | .agg cs, h => by
    simp only [flat, cl, exD] at h ⊢
    exact ⟨(flats_cl cs h).1, fun r => by rw [(flats_cl cs h).2]⟩
  | .tup cs, h => by
    simp only [flat, cl, exD] at h ⊢
    exact ⟨(flats_cl cs h).1, fun r => by rw [(flats_cl cs h).2]⟩
  | .fn f cs, h => by
    simp only [flat, cl, exD] at h ⊢
    exact ⟨(flats_cl cs h).1, fun r => by rw [(flats_cl cs h).2]⟩
theorem flats_cl : ∀ (ds : List D), flats ds = true → cls ds = true ∧ ∀ r, exDs r ds = ds
  | [], _ => ⟨rfl, fun _ => rfl⟩
  | d :: ds, h => by
    simp only [flats, cls, exDs, Bool.and_eq_true] at h ⊢
    exact ⟨⟨(flat_cl d h.1).1, (flats_cl ds h.2).1⟩, fun r => by rw [(flat_cl d h.1).2, (flats_cl ds h.2).2]⟩
end

/-- What of a state is alive: there is a world for it. -/
def Live (B : Base) (s : St) : Prop := ∃ φ S a w, Rel B s φ S a w
/-- The program's variables, as the call found them. -/
def BOK (E : Ctx) (B : Base) : Prop := GOK E B.S0 B.w0 ∧ ∀ b, B.S0 b → b < B.w0.heap.size ∧ ¬ B.G b
theorem BOK.gok (hB : BOK E B) (hr : Rel B s φ S a w) : GOK E S w := hB.1.mono (fun b h => hr.below.block b (hB.2 b h).1 (hB.2 b h).2) hr.s0

theorem pos_spec : ∀ {bs : List Nat} {b i : Nat}, pos bs b = some i → bs[i]? = some b
  | x :: r, b, i, h => by
    simp only [pos] at h
    split at h
    · rename_i e; cases h; subst e; rfl
    · obtain ⟨j, hj, rfl⟩ := Option.map_eq_some_iff.1 h
      simpa using pos_spec hj
theorem pos_mem : ∀ {bs : List Nat} {b : Nat}, b ∈ bs → ∃ i, pos bs b = some i
  | x :: r, b, h => by
    simp only [pos]
    split
    · exact ⟨0, rfl⟩
    · rename_i e
      obtain ⟨i, hi⟩ := pos_mem (List.mem_of_ne_of_mem e h)
      exact ⟨i + 1, by rw [hi]; rfl⟩
theorem giv_spec {h : Hp} : ∀ {bs : List Nat}, givOk h bs = true → bs.Nodup ∧ ∀ b ∈ bs, ∃ x, lookB h b = some x ∧ (∀ fz ver ag sz n f, x = .row fz ver ag sz n f → fz = false)
  | [], _ => ⟨List.nodup_nil, fun _ h => by cases h⟩
  | b :: r, h' => by
    simp only [givOk, Bool.and_eq_true, Bool.not_eq_true'] at h'
    obtain ⟨⟨h1, h2⟩, h3⟩ := h'
    obtain ⟨h4, h5⟩ := giv_spec h3
    refine ⟨List.nodup_cons.2 ⟨by simpa using h2, h4⟩, fun b' hb' => ?_⟩
    rcases List.mem_cons.1 hb' with rfl | hb'
    · split at h1
      · rename_i fz ver ag sz n f hl
        exact ⟨_, hl, fun _ _ _ _ _ _ e => by cases e; simpa using h1⟩
      · rename_i hl; exact ⟨_, hl, fun _ _ _ _ _ _ e => by cases e⟩
      · cases h1
    · exact h5 b' hb'
theorem impH_look {ρ : Nat → Option Nat} {h : Hp} : ∀ (bs : List Nat) (k j : Nat), (∀ b ∈ bs, ∃ x, lookB h b = some x) → lookB (impH ρ h bs k) j = if k ≤ j then (bs[j - k]?).bind fun b => (lookB h b).map (impB ρ h) else none
  | [], k, j, _ => by simp [impH, lookB]
  | b :: r, k, j, hb => by
    obtain ⟨x, hx⟩ := hb b (by simp)
    simp only [impH, hx, lookB]
    rw [impH_look r (k + 1) j fun b' h' => hb b' (List.mem_cons_of_mem _ h')]
    by_cases e : j = k
    · subst e; simp [hx]
    · rw [if_neg e]
      by_cases hk : k ≤ j
      · rw [if_pos hk, if_pos (by omega), show j - k = (j - (k + 1)) + 1 by omega, List.getElem?_cons_succ]
      · rw [if_neg hk, if_neg (by omega)]
theorem BlkAt.move {H H' : Hp} {φ φ' : Ph} {S S' : Nat → Prop} {w w' : World} (hx : HpExt H φ H' φ') (hk : Kept S w w') (hs : ∀ b, S b → S' b) {b : Nat} (hph : φ' b = φ b) (hw : ∀ c t, φ b = some (c, t) → w'.heap[c]? = w.heap[c]?) (hn : ∀ c t, φ b = some (c, t) → S' c → S c) :
    ∀ {x : Blk}, BlkAt H φ S w b x → BlkAt H' φ' S' w' b x
  | .var ag sz d, h => by
    obtain ⟨c, t, h1, h2, x, vs, e, lo, hi, h3, h4, h5, h6, h7⟩ := h
    exact ⟨c, t, hph.trans h1, fun h => h2 (hn c t h1 h), x, vs, e, lo, hi, (hw c t h1).trans h3, h4, h5, h6, RepV.mono hx hk hs _ _ h7⟩
  | .row fz ver ag sz n f, h => by
    refine ⟨fun e => h.1 (hph.symm.trans e), fun c tot e => ?_⟩
    have e' := hph.symm.trans e
    obtain ⟨h1, h2, h3, h4, vs, ty, lo, hi, h5, h6, h7, h8⟩ := h.2 c tot e'
    refine ⟨fun hf h => h1 hf (hn c tot e' h), fun hf => hs c (h2 hf), h3, h4, vs, ty, lo, hi, (hw c tot e').trans h5, h6, h7, fun i hi => ?_⟩
    obtain ⟨x, g1, g2⟩ := h8 i hi
    exact ⟨x, g1, Rep0.mono hk hs _ _ g2⟩
theorem frz_nil : ∀ h : Hp, frz [] h = h
  | [] => rfl
  | (b, .var ag sz d) :: r => by simp [frz, frz_nil r]
  | (b, .row fz ver ag sz n f) :: r => by simp [frz, frz_nil r]
mutual
theorem repv_nil {φ : Ph} : ∀ (d : D) (v : Value), RepV [] φ S w d v → Rep0 S w d v
  | .int .., _, h | .bool .., _, h | .str .., _, h | .nilp, _, h | .nils, _, h | .nilm, _, h | .nilf, _, h | .gl .., _, h | .unk, _, h | .ro .., _, h | .ra .., _, h => by simpa only [RepV] using h
  | .sl .., _, h => by simp only [RepV, lookB] at h; obtain ⟨_, _, _, _, _, _, e, _⟩ := h; cases e
  | .el .., _, h => by simp only [RepV, lookB] at h; obtain ⟨_, _, _, _, _, _, e, _⟩ := h; cases e
  | .vs .., _, h => by simp only [RepV, lookB] at h; obtain ⟨_, _, _, _, _, _, _, e, _⟩ := h; cases e
  | .ad .., _, h => by simp only [RepV, lookB] at h; obtain ⟨_, _, _, _, _, e, _⟩ := h; cases e
  | .agg cs, v, h => by
    simp only [RepV, Rep0] at h ⊢
    obtain ⟨vs, e, h⟩ := h
    exact ⟨vs, e, repvs_nil cs vs h⟩
  | .tup cs, v, h => by
    simp only [RepV, Rep0] at h ⊢
    obtain ⟨vs, e, h⟩ := h
    exact ⟨vs, e, repvs_nil cs vs h⟩
  | .fn f cs, v, h => by
    simp only [RepV, Rep0] at h ⊢
    obtain ⟨vs, e, h⟩ := h
    exact ⟨vs, e, repvs_nil cs vs h⟩
theorem repvs_nil {φ : Ph} : ∀ (ds : List D) (vs : List Value), RepVs [] φ S w ds vs → Rep0s S w ds vs
  | [], vs, h => by simpa only [RepVs, Rep0s] using h
  | d :: ds, vs, h => by
    simp only [RepVs, Rep0s] at h ⊢
    obtain ⟨v, vs', e, h1, h2⟩ := h
    exact ⟨v, vs', e, repv_nil d v h1, repvs_nil ds vs' h2⟩
end


mutual
theorem refs_none' (ρ : Nat → Option Nat) : ∀ (d : D) (b : Nat), b ∈ refs ρ d → ρ b = none
  | .int .., b, h | .bool .., b, h | .str .., b, h | .nilp, b, h | .nils, b, h | .nilm, b, h | .nilf, b, h | .gl .., b, h | .unk, b, h | .ro .., b, h | .ra .., b, h | .ad .., b, h | .el .., b, h | .vs .., b, h => by simp [refs] at h
  | .sl b' ver off n, b, h => by
    simp only [refs] at h
    split at h
    · cases h
    · rename_i e
      rw [List.mem_singleton.1 h, e]
  | .agg cs, b, h => by simp only [refs] at h; exact refss_none' ρ cs b h
  | .tup cs, b, h => by simp only [refs] at h; exact refss_none' ρ cs b h
  | .fn f cs, b, h => by simp only [refs] at h; exact refss_none' ρ cs b h
theorem refss_none' (ρ : Nat → Option Nat) : ∀ (ds : List D) (b : Nat), b ∈ refss ρ ds → ρ b = none
  | [], b, h => by simp [refss] at h
  | d :: ds, b, h => by
    simp only [refss, List.mem_append] at h
    rcases h with h | h
    · exact refs_none' ρ d b h
    · exact refss_none' ρ ds b h
end
theorem refs_none (ρ : Nat → Option Nat) : (∀ d b, b ∈ refs ρ d → ρ b = none) ∧ ∀ ds b, b ∈ refss ρ ds → ρ b = none := ⟨refs_none' ρ, refss_none' ρ⟩
/-- What a call comes to. -/
theorem CallX0_sound (hB : BOK E B) (hr : Rel B s φ S a w) {g : FuncId} {ds : List D} {vs : List Value} (hds : RepVs s.h φ S w ds vs) {dst : Option Nat} (hd : ∀ t, dst = some t → t < B.N) {K : St → Prop} (h : CallX0 E g ds K s dst) :
    fnOk E.P g = true ∧ Calls E.P g ⟨vs⟩ w fun e w' => ∃ v s' φ' S', e = .returned v ∧ Rel B s' φ' S' (a.put dst v) w' ∧ K s' := by
  obtain ⟨bs, d, h', _, hgiv, hC, hK⟩ := h
  refine ⟨hC.1, ?_⟩
  obtain ⟨hnd, hbs⟩ := giv_spec hgiv
  let F := fsOf s bs ds
  let Hin := impH (pos bs) s.h bs 0
  let φin : Ph := fun i => (bs[i]?).bind φ
  have hHin : ∀ i, lookB Hin i = (bs[i]?).bind fun b => (lookB s.h b).map (impB (pos bs) s.h) := fun i => by
    show lookB (impH (pos bs) s.h bs 0) i = _
    rw [impH_look bs 0 i fun b hb => let ⟨x, hx, _⟩ := hbs b hb; ⟨x, hx⟩]
    simp
  have hρ : ∀ b i, pos bs b = some i → ∀ x, lookB s.h b = some x → lookB Hin i = some (impB (pos bs) s.h x) ∧ φin i = φ b := fun b i hi x hx => by
    have := pos_spec hi
    exact ⟨by rw [hHin, this]; simp [hx], by show (bs[i]?).bind φ = φ b; rw [this]; rfl⟩
  have hback : ∀ i y, lookB Hin i = some y → ∃ b x, pos bs b = some i ∧ lookB s.h b = some x ∧ y = impB (pos bs) s.h x := fun i y hy => by
    rw [hHin] at hy
    cases hb : bs[i]? with
    | none => rw [hb] at hy; cases hy
    | some b =>
      rw [hb] at hy
      obtain ⟨x, hx, rfl⟩ := Option.map_eq_some_iff.1 (by simpa using hy)
      obtain ⟨j, hj⟩ := pos_mem (List.mem_of_getElem? hb)
      have h1 := pos_spec hj
      obtain ⟨l1, e1⟩ := List.getElem?_eq_some_iff.1 h1
      obtain ⟨l2, e2⟩ := List.getElem?_eq_some_iff.1 hb
      have : j = i := (List.getElem_inj hnd).1 (e1.trans e2.symm)
      subst this
      exact ⟨b, x, hj, hx, rfl⟩
  have hposnone : ∀ b, (pos bs b = none) ∨ b ∈ bs := fun b => by
    cases hb : pos bs b with
    | none => exact .inl rfl
    | some i => exact .inr (List.mem_of_getElem? (pos_spec hb))
  have hfsn : (∀ ρ : Nat → Option Nat, (∀ d b, b ∈ refs ρ d → ρ b = none) ∧ ∀ ds b, b ∈ refss ρ ds → ρ b = none) := fun ρ => refs_none ρ
  have hF : ∀ b, b ∈ F → pos bs b = none := fun b hb => by
    rcases List.mem_append.1 hb with hb | hb
    · exact (hfsn _).2 _ _ hb
    · obtain ⟨b', hb', hb⟩ := List.mem_flatMap.1 hb
      unfold refB at hb
      split at hb
      · exact (hfsn _).1 _ _ hb
      · cases hb
  have hrf : ∀ b i ag sz d, pos bs b = some i → lookB s.h b = some (.var ag sz d) → ∀ b', b' ∈ refs (pos bs) d → b' ∈ F := fun b i ag sz d hi hl b' hb' =>
    List.mem_append_right _ (List.mem_flatMap.2 ⟨b, List.mem_of_getElem? (pos_spec hi), by simp [refB, hl, hb']⟩)
  have hhp : HpAt Hin φin (Fz s.h φ S F) w := imp_hp hr.hp hρ hback hF hrf
  have hargs := imps_rep (fs := F) hr.hp hρ ds vs hds fun b hb => List.mem_append_left _ hb
  have hrz := hr.frz F
  have hGBold : ∀ c, GB Hin φin c → ∃ b i x t, pos bs b = some i ∧ lookB s.h b = some x ∧ φ b = some (c, t) := fun c ⟨i, y, t, h1, h2⟩ => by
    obtain ⟨b, x, h3, h4, rfl⟩ := hback i y h1
    exact ⟨b, i, x, t, h3, h4, (hρ b i h3 x h4).2.symm.trans h2⟩
  have hGB : ∀ c, GB Hin φin c → c < w.heap.size ∧ ¬ Fz s.h φ S F c := fun c hc => by
    obtain ⟨b, i, x, t, h1, h2, h3⟩ := hGBold c hc
    refine ⟨hr.plt b x c t h2 h3, ?_⟩
    obtain ⟨h4, h5⟩ := hρ b i h1 x h2
    have hblk := hhp.blk i _ h4
    obtain ⟨x', hx', hfz⟩ := hbs b (List.mem_of_getElem? (pos_spec h1))
    rw [h2] at hx'
    cases hx'
    cases x with
    | var ag sz d =>
      obtain ⟨c', t', g1, g2, _⟩ := hblk
      rw [h5, h3] at g1
      cases g1
      exact g2
    | row fz ver ag sz n f => exact (hblk.2 c t (h5.trans h3)).1 (hfz _ _ _ _ _ _ rfl)
  refine Calls.mono (hC.2 _ w _ φin hrz.slt ((hB.gok hr).mono (fun _ _ => rfl) fun _ h => .inl h) hhp hGB hargs) ?_
  rintro e w' ⟨v, S', φ', he, p1, p2, p3, p4, p5, p6, p7, p8⟩
  by_cases hfl : (flat d && h'.isEmpty) = true
  · rw [if_pos hfl] at hK
    simp only [Bool.and_eq_true, List.isEmpty_iff] at hfl
    obtain ⟨hfl, rfl⟩ := hfl
    have hnb : bs = [] := by
      cases bs with
      | nil => rfl
      | cons b r =>
        exfalso
        obtain ⟨x, hx, _⟩ := hbs b (by simp)
        obtain ⟨h1, _⟩ := hρ b 0 (by simp [pos]) x hx
        cases x with
        | var ag sz d => obtain ⟨⟨_, e⟩, _⟩ := (p3 0).1 _ _ _ h1; cases e
        | row fz ver ag sz n f => obtain ⟨_, _, _, _, e, _⟩ := (p3 0).2 _ _ _ _ _ _ h1; cases e
    subst hnb
    have hnoGB : ∀ c, ¬ GB Hin φin c := fun c hc => by
      obtain ⟨b, i, x, t, h1, _⟩ := hGBold c hc
      cases h1
    have hbel : Below w.heap.size w w' := ⟨p5.os, p5.tape, p5.output, p5.size, fun k hk => p5.block k hk (hnoGB k)⟩
    have hr' := hr.later hbel (fun _ h => h) (fun b h => Nat.lt_of_lt_of_le (hr.slt b h) p5.size) (fun _ h _ => h)
    have e1 : aft s [] [] [] = s := by simp [aft, mrg, frz_nil, mx]
    rw [e1, (flat_cl d hfl).2] at hK
    exact ⟨v, _, φ, S, he, hr'.put (Rep0.toV _ _ (flat_rep _ _ (repv_nil _ _ p1) hfl)) hd, hK⟩
  · rw [if_neg hfl] at hK
    let r := ex bs s.nx
    let Hz := Lv.frz F s.h
    let H2 := mrg r bs.length h' Hz
    let φ2 : Ph := fun b => match pos bs b with
      | some i => φ' i
      | none => if s.nx ≤ b then φ' (b - s.nx) else φ b
    have hlt : ∀ b, b ∈ bs → b < s.nx := fun b hb => let ⟨x, hx, _⟩ := hbs b hb; hr.nx b x hx
    have r1 : ∀ i (hi : i < bs.length), r i = bs[i] := fun i hi => by simp [r, ex, hi]
    have r2 : ∀ i, bs.length ≤ i → r i = s.nx + i := fun i hi => by simp only [r, ex]; rw [if_neg (by omega)]
    have rinj : ∀ i j, r i = r j → i = j := fun i j e => by
      by_cases hi : i < bs.length <;> by_cases hj : j < bs.length
      · rw [r1 i hi, r1 j hj] at e; exact (List.getElem_inj hnd).1 e
      · rw [r1 i hi, r2 j (by omega)] at e
        have := hlt _ (List.getElem_mem hi)
        omega
      · rw [r2 i (by omega), r1 j hj] at e
        have := hlt _ (List.getElem_mem hj)
        omega
      · rw [r2 i (by omega), r2 j (by omega)] at e; omega
    have pr : ∀ i (hi : i < bs.length), pos bs bs[i] = some i := fun i hi => by
      obtain ⟨j, hj⟩ := pos_mem (List.getElem_mem hi)
      obtain ⟨l1, e1⟩ := List.getElem?_eq_some_iff.1 (pos_spec hj)
      have : j = i := (List.getElem_inj hnd).1 e1
      rw [hj, this]
    have f3 : ∀ i, φ2 (r i) = φ' i := fun i => by
      by_cases hi : i < bs.length
      · simp only [φ2, r1 i hi, pr i hi]
      · have hn : pos bs (s.nx + i) = none := (hposnone _).resolve_right fun hm => by have := hlt _ hm; omega
        simp only [φ2, r2 i (by omega), hn]
        rw [if_pos (by omega)]
        congr 1
        omega
    have hzs : ∀ b x, lookB s.h b = some x → ∃ y, lookB Hz b = some y := fun b x hx => by
      show ∃ y, lookB (Lv.frz F s.h) b = some y
      rw [lookB_frz, hx]
      cases x <;> exact ⟨_, rfl⟩
    have hsz : ∀ b y, lookB Hz b = some y → ∃ x, lookB s.h b = some x := fun b y hy => by
      have hy' : lookB (Lv.frz F s.h) b = some y := hy
      rw [lookB_frz] at hy'
      cases hx : lookB s.h b with
      | none => rw [hx] at hy'; cases hy'
      | some x => exact ⟨x, rfl⟩
    have f4 : ∀ i y, lookB h' i = some y → lookB H2 (r i) = some (exB r y) := mrg_in rinj h' Hz fun i hi => by
      obtain ⟨x, hx, _⟩ := hbs _ (List.getElem_mem hi)
      obtain ⟨y, hy⟩ := hzs _ x hx
      rw [r1 i hi, hy]
      rfl
    have hinh : ∀ b i, pos bs b = some i → ∃ y, lookB h' i = some y := fun b i hi => by
      obtain ⟨x, hx, _⟩ := hbs b (List.mem_of_getElem? (pos_spec hi))
      obtain ⟨h1, _⟩ := hρ b i hi x hx
      cases x with
      | var ag sz d => obtain ⟨⟨_, e⟩, _⟩ := (p3 i).1 _ _ _ h1; exact ⟨_, e⟩
      | row fz ver ag sz n f => obtain ⟨_, _, _, _, e, _⟩ := (p3 i).2 _ _ _ _ _ _ h1; exact ⟨_, e⟩
    have rb : ∀ b i, pos bs b = some i → r i = b := fun b i hi => by
      obtain ⟨l1, e1⟩ := List.getElem?_eq_some_iff.1 (pos_spec hi)
      rw [r1 i l1, e1]
    have f5 : ∀ b, pos bs b = none → b < s.nx → lookB H2 b = lookB Hz b ∧ φ2 b = φ b := fun b hb hlt' => by
      refine ⟨mrg_out h' Hz fun i y hy e => ?_, ?_⟩
      · by_cases hi : i < bs.length
        · rw [r1 i hi] at e
          rw [e, pr i hi] at hb
          cases hb
        · rw [r2 i (by omega)] at e
          omega
      · simp only [φ2, hb]
        rw [if_neg (by omega)]
    have f6 : HpExt Hz φ H2 φ2 := fun b => by
      cases hb : pos bs b with
      | none =>
        refine ⟨fun ag sz d hl => ?_, fun fz ver ag sz m f hl => ?_⟩
        · obtain ⟨x, hx⟩ := hsz b _ hl
          obtain ⟨e1, e2⟩ := f5 b hb (hr.nx b x hx)
          exact ⟨⟨d, e1.trans hl⟩, e2⟩
        · obtain ⟨x, hx⟩ := hsz b _ hl
          obtain ⟨e1, e2⟩ := f5 b hb (hr.nx b x hx)
          exact ⟨fz, ver, m, f, e1.trans hl, Nat.le_refl _, fun _ => ⟨Nat.le_refl _, e2⟩⟩
      | some i =>
        have e0 := rb b i hb
        have e3 : φ2 b = φ' i := by rw [← e0]; exact f3 i
        refine ⟨fun ag sz d hl => ?_, fun fz ver ag sz m f hl => ?_⟩
        · obtain ⟨x, hx⟩ := hsz b _ hl
          have hl' : lookB (Lv.frz F s.h) b = _ := hl
          rw [lookB_frz, hx] at hl'
          cases x with
          | row => cases hl'
          | var ag' sz' d' =>
            cases hl'
            obtain ⟨h1, h2⟩ := hρ b i hb _ hx
            obtain ⟨⟨d'', e1⟩, e2⟩ := (p3 i).1 _ _ _ h1
            refine ⟨⟨exD r d'', ?_⟩, (e3.trans e2).trans h2⟩
            rw [← e0]
            exact f4 i _ e1
        · obtain ⟨x, hx⟩ := hsz b _ hl
          have hl' : lookB (Lv.frz F s.h) b = _ := hl
          rw [lookB_frz, hx] at hl'
          cases x with
          | var => cases hl'
          | row fz' ver' ag' sz' m' f' =>
            cases hl'
            obtain ⟨h1, h2⟩ := hρ b i hb _ hx
            obtain ⟨fz2, ver2, m2, f2, e1, e2, e4⟩ := (p3 i).2 _ _ _ _ _ _ h1
            refine ⟨fz2, ver2, m2, f2, ?_, e2, fun e => ⟨(e4 e).1, (e3.trans (e4 e).2).trans h2⟩⟩
            rw [← e0]
            exact f4 i _ e1
    have f7 : HpExt s.h φ H2 φ2 := (frz_ext F s.h φ).trans f6
    have hk1 : Kept (Fz s.h φ S F) w w' := fun b hb => p5.block b (hrz.slt b hb) fun hG => (hGB b hG).2 hb
    have hsS : ∀ b, S b → S' b := fun b hb => p6 b (.inl hb)
    have hframe : ∀ b x c t, lookB s.h b = some x → pos bs b = none → φ b = some (c, t) → c < w.heap.size ∧ ¬ GB Hin φin c := fun b x c t hl hb hp => by
      refine ⟨hr.plt b x c t hl hp, fun hG => ?_⟩
      obtain ⟨b', i, x', t', h1, h2, h3⟩ := hGBold c hG
      obtain rfl := hr.hp.inj b b' x x' c t t' hl h2 hp h3
      rw [hb] at h1
      cases h1
    have hcase : ∀ b x, lookB H2 b = some x → (∃ i y, lookB h' i = some y ∧ b = r i ∧ x = exB r y) ∨ (pos bs b = none ∧ lookB Hz b = some x ∧ b < s.nx ∧ φ2 b = φ b ∧ ∃ x', lookB s.h b = some x') := fun b x hl => by
      by_cases hi : ∃ i y, lookB h' i = some y ∧ b = r i
      · obtain ⟨i, y, h1, rfl⟩ := hi
        have := f4 i y h1
        rw [hl] at this
        exact .inl ⟨i, y, h1, rfl, Option.some.inj this⟩
      · have e := mrg_out (r := r) (k := bs.length) (b := b) h' Hz fun i y h1 e => hi ⟨i, y, h1, e⟩
        have hl' : lookB Hz b = some x := e.symm.trans hl
        obtain ⟨x', hx'⟩ := hsz b x hl'
        have hb : pos bs b = none := by
          cases hb : pos bs b with
          | none => rfl
          | some i =>
            obtain ⟨y, hy⟩ := hinh b i hb
            exact (hi ⟨i, y, hy, (rb b i hb).symm⟩).elim
        exact .inr ⟨hb, hl', hr.nx b x' hx', (f5 b hb (hr.nx b x' hx')).2, x', hx'⟩
    have hrel : Rel B ⟨s.e, H2, s.nx + mx h'⟩ φ2 S' a w' := by
      refine ⟨fun i => RepV.mono f7 (fun b hb => hk1 b (.inl hb)) hsS _ _ (hr.env i), hr.size, ⟨fun b x hl => ?_, fun b1 b2 x1 x2 c t1 t2 l1 l2 q1 q2 => ?_⟩, fun b x hl => ?_, p7, fun b x c t hl hp => ?_, fun b x c t hl hp => ?_, fun b hb => hsS b (hr.s0 b hb), fun b hb hlt' => ?_, ?_, hr.ext.trans f7 (fun b hb => ?_), Nat.le_trans hr.nx0 (Nat.le_add_right _ _), hr.def0.move fun D hD _ hS ho => ?_⟩
      · rcases hcase b x hl with ⟨i, y, h1, rfl, rfl⟩ | ⟨hb, hl', hlt', hph, x', hx'⟩
        · exact ex_blk (fun i y h => ⟨f4 i y h, f3 i⟩) h1 (p2.blk i y h1)
        · refine BlkAt.move f6 hk1 p6 hph (fun c t hp => ?_) (fun c t hp hS => ?_) (hrz.hp.blk b x hl')
          · obtain ⟨g1, g2⟩ := hframe b x' c t hx' hb hp
            exact p5.block c g1 g2
          · obtain ⟨g1, g2⟩ := hframe b x' c t hx' hb hp
            exact (p8 c hS g1).resolve_right g2
      · have mixed : ∀ i y b x c t t', lookB h' i = some y → pos bs b = none → lookB s.h b = some x → φ' i = some (c, t) → φ b = some (c, t') → False := fun i y b x c t t' h1 h2 h3 h4 h5 => by
          obtain ⟨g1, g2⟩ := hframe b x c t' h3 h2 h5
          rcases (p4 c ⟨i, y, t, h1, h4⟩).2 with g | g
          · omega
          · exact g2 g
        rcases hcase b1 x1 l1 with ⟨i, y, h1, rfl, rfl⟩ | ⟨hb, hl', hlt', hph, x', hx'⟩
        · rcases hcase b2 x2 l2 with ⟨i', y', h1', rfl, rfl⟩ | ⟨hb', hl'', hlt'', hph', x'', hx''⟩
          · rw [f3] at q1 q2
            rw [p2.inj i i' y y' c t1 t2 h1 h1' q1 q2]
          · rw [f3] at q1
            exact (mixed i y b2 x'' c t1 t2 h1 hb' hx'' q1 (hph'.symm.trans q2)).elim
        · rcases hcase b2 x2 l2 with ⟨i', y', h1', rfl, rfl⟩ | ⟨hb', hl'', hlt'', hph', x'', hx''⟩
          · rw [f3] at q2
            exact (mixed i' y' b1 x' c t2 t1 h1' hb hx' q2 (hph.symm.trans q1)).elim
          · exact hr.hp.inj b1 b2 x' x'' c t1 t2 hx' hx'' (hph.symm.trans q1) (hph'.symm.trans q2)
      · rcases hcase b x hl with ⟨i, y, h1, rfl, rfl⟩ | ⟨hb, hl', hlt', hph, x', hx'⟩
        · show r i < s.nx + mx h'
          by_cases hi : i < bs.length
          · rw [r1 i hi]
            have := hlt _ (List.getElem_mem hi)
            omega
          · rw [r2 i (by omega)]
            have := mx_lt h1
            omega
        · show b < s.nx + mx h'
          omega
      · rcases hcase b x hl with ⟨i, y, h1, rfl, rfl⟩ | ⟨hb, hl', hlt', hph, x', hx'⟩
        · rw [f3] at hp
          exact (p4 c ⟨i, y, t, h1, hp⟩).1
        · exact Nat.lt_of_lt_of_le (hr.plt b x' c t hx' (hph.symm.trans hp)) p5.size
      · rcases hcase b x hl with ⟨i, y, h1, rfl, rfl⟩ | ⟨hb, hl', hlt', hph, x', hx'⟩
        · rw [f3] at hp
          rcases (p4 c ⟨i, y, t, h1, hp⟩).2 with g | g
          · exact .inl (Nat.le_trans hr.below.size g)
          · obtain ⟨b', i', x', t', _, g2, g3⟩ := hGBold c g
            exact hr.old b' x' c t' g2 g3
        · exact hr.old b x' c t hx' (hph.symm.trans hp)
      · rcases p8 b hb (Nat.lt_of_lt_of_le hlt' hr.below.size) with g | g
        · exact hrz.s1 b g hlt'
        · obtain ⟨b', i', x', t', _, g2, g3⟩ := hGBold b g
          exact .inr ((hr.old b' x' b t' g2 g3).resolve_left (by omega))
      · refine ⟨p5.os.trans hr.below.os, p5.tape.trans hr.below.tape, p5.output.trans hr.below.output, Nat.le_trans hr.below.size p5.size, fun k hk hG => ?_⟩
        rw [p5.block k (Nat.lt_of_lt_of_le hk hr.below.size) fun g => ?_]
        · exact hr.below.block k hk hG
        · obtain ⟨b', i', x', t', _, g2, g3⟩ := hGBold k g
          rcases hr.old b' x' k t' g2 g3 with g | g
          · omega
          · exact hG g
      · obtain ⟨x, hx⟩ := Option.isSome_iff_exists.1 hb
        rcases hcase b x hx with ⟨i, y, h1, rfl, rfl⟩ | ⟨hb', hl', hlt', hph, x', hx'⟩
        · by_cases hi : i < bs.length
          · obtain ⟨x', hx', _⟩ := hbs _ (List.getElem_mem hi)
            exact .inl (by rw [r1 i hi, hx']; rfl)
          · refine .inr ?_
            cases hl0 : lookB B.h0 (r i) with
            | none => rfl
            | some x0 =>
              have g1 := mx_lt hl0
              have g2 := hr.nx0
              rw [r2 i (by omega)] at g1
              omega
        · exact .inl (by rw [hx']; rfl)
      · have hnG : ¬ GB Hin φin D := fun hG => by
          obtain ⟨b', i', x', t', _, g2, g3⟩ := hGBold D hG
          exact ho b' x' D t' g2 g3 rfl
        refine ⟨p5.block D hD hnG, fun h => ?_, fun b x c t l p e => ?_⟩
        · rcases (p8 D h hD).resolve_right hnG with h | ⟨b', hb', fz', ver', ag', sz', n', f', t', l', p'⟩
          · exact hS h
          · exact ho b' _ D t' l' p' rfl
        · subst e
          rcases hcase b x l with ⟨i, y, h1, rfl, rfl⟩ | ⟨hb, hl', hlt', hph, x', hx'⟩
          · rw [f3] at p
            rcases (p4 c ⟨i, y, t, h1, p⟩).2 with g | g
            · omega
            · exact hnG g
          · exact ho b x' c t hx' (hph.symm.trans p) rfl
    exact ⟨v, _, φ2, S', he, hrel.put (ex_rep (fun i y h => ⟨f4 i y h, f3 i⟩) _ _ p1) hd, hK⟩

theorem execOp_fn {o : Oper} {f : Operand} {xs : List Operand} {ts : Array TypeId} {g : FuncId} {cap : List Value} (ho : o.op = .call { callee := .value f, args := ⟨xs⟩, argTypes := ts }) (hf : a.eval f = .func (.func g) #[] ⟨cap⟩) :
    execOp a.eval o = callFunc g ⟨xs.map a.eval ++ cap⟩ := by
  have : execOp a.eval o = (do let d ← resolve a.eval { callee := .value f, args := ⟨xs⟩, argTypes := ts } o.type; invoke d.target d.args) := by
    unfold execOp
    rw [ho]
  rw [this]
  simp only [resolve, hf, Deferred.ofValue]
  show callFunc g (#[] ++ (⟨xs⟩ : Array Operand).map a.eval ++ ⟨cap⟩) = _
  congr 1
  simp
theorem run_callFunc {P : Program} {g : FuncId} (h : fnOk P g = true) (vs : Array Value) (w : World) : (callFunc g vs).run P w = .ok (.enter g vs) w := by
  unfold fnOk at h
  split at h
  · rename_i fn hf
    simp only [Bool.and_eq_true, Bool.not_eq_true'] at h
    have hb : fn.body ≠ none := by intro hb; simp [hb] at h
    have hn : fn.name ≠ "runtime.NumGoroutine" := by simpa using h.2
    simp [callFunc, hf, hn, hb]
  · cases h

theorem reps_map (hev : ∀ x, RepV s.h φ S w (ev E s x) (a.eval x)) : ∀ xs : List Operand, RepVs s.h φ S w (xs.map (ev E s)) (xs.map a.eval)
  | [] => rfl
  | x :: xs => ⟨_, _, rfl, hev x, reps_map hev xs⟩
mutual
theorem flat_imp (ρ : Nat → Option Nat) (H : Hp) : ∀ (d : D), flat d = true → imp ρ H d = d
  | .int .., _ | .bool .., _ | .str .., _ | .nilp, _ | .nils, _ | .nilm, _ | .nilf, _ | .gl .., _ | .unk, _ => rfl
  | .ro .., h | .ra .., h | .sl .., h | .ad .., h | .el .., h | .vs .., h => by simp [flat] at h
  | .agg cs, h => by simp only [imp, flats_imp ρ H cs (by simpa only [flat] using h)]
  | .tup cs, h => by simp only [imp, flats_imp ρ H cs (by simpa only [flat] using h)]
  | .fn f cs, h => by simp only [imp, flats_imp ρ H cs (by simpa only [flat] using h)]
theorem flats_imp (ρ : Nat → Option Nat) (H : Hp) : ∀ (ds : List D), flats ds = true → imps ρ H ds = ds
  | [], _ => rfl
  | d :: ds, h => by
    simp only [flats, Bool.and_eq_true] at h
    simp only [imps, flat_imp ρ H d h.1, flats_imp ρ H ds h.2]
end
mutual
theorem flat_repv {H : Hp} {φ : Ph} {S S' : Nat → Prop} {w w' : World} : ∀ (d : D) (v : Value), RepV H φ S w d v → flat d = true → Rep0 S' w' d v
  | .int .., _, h, _ | .bool .., _, h, _ | .str .., _, h, _ | .nilp, _, h, _ | .nils, _, h, _ | .nilm, _, h, _ | .nilf, _, h, _ | .gl .., _, h, _ | .unk, _, h, _ => by simp only [RepV, Rep0] at h ⊢ <;> exact h
  | .ro .., _, _, h | .ra .., _, _, h | .sl .., _, _, h | .ad .., _, _, h | .el .., _, _, h | .vs .., _, _, h => by simp [flat] at h
  | .agg cs, v, h, hc => by
    simp only [RepV, Rep0, flat] at h hc ⊢
    obtain ⟨vs, e, h⟩ := h
    exact ⟨vs, e, flats_repv cs vs h hc⟩
  | .tup cs, v, h, hc => by
    simp only [RepV, Rep0, flat] at h hc ⊢
    obtain ⟨vs, e, h⟩ := h
    exact ⟨vs, e, flats_repv cs vs h hc⟩
  | .fn f cs, v, h, hc => by
    simp only [RepV, Rep0, flat] at h hc ⊢
    obtain ⟨vs, e, h⟩ := h
    exact ⟨vs, e, flats_repv cs vs h hc⟩
theorem flats_repv {H : Hp} {φ : Ph} {S S' : Nat → Prop} {w w' : World} : ∀ (ds : List D) (vs : List Value), RepVs H φ S w ds vs → flats ds = true → Rep0s S' w' ds vs
  | [], vs, h, _ => by simpa [RepVs, Rep0s] using h
  | d :: ds, vs, h, hc => by
    simp only [RepVs, Rep0s, flats, Bool.and_eq_true] at h hc ⊢
    obtain ⟨v, vs', e, h1, h2⟩ := h
    exact ⟨v, vs', e, flat_repv d v h1 hc.1, flats_repv ds vs' h2 hc.2⟩
end
/-- What a call comes to that is lent blocks. -/
theorem CallR_sound (hB : BOK E B) (hr : Rel B s φ S a w) {g : FuncId} {ds : List D} {vs : List Value} (hds : RepVs s.h φ S w ds vs) {dst : Option Nat} (hd : ∀ t, dst = some t → t < B.N) {K : St → Prop} (h : CallR E g ds K s dst) :
    fnOk E.P g = true ∧ Calls E.P g ⟨vs⟩ w fun e w' => ∃ v s' φ' S', e = .returned v ∧ Rel B s' φ' S' (a.put dst v) w' ∧ K s' := by
  obtain ⟨bs, d, hgiv, hflB, hfl, hC, hK⟩ := h
  refine ⟨hC.1, ?_⟩
  obtain ⟨hnd, hbs⟩ := giv_spec hgiv
  let F := fsOf s bs ds
  let Hin := impH (pos bs) s.h bs 0
  let φin : Ph := fun i => (bs[i]?).bind φ
  have hHin : ∀ i, lookB Hin i = (bs[i]?).bind fun b => (lookB s.h b).map (impB (pos bs) s.h) := fun i => by
    show lookB (impH (pos bs) s.h bs 0) i = _
    rw [impH_look bs 0 i fun b hb => let ⟨x, hx, _⟩ := hbs b hb; ⟨x, hx⟩]
    simp
  have hρ : ∀ b i, pos bs b = some i → ∀ x, lookB s.h b = some x → lookB Hin i = some (impB (pos bs) s.h x) ∧ φin i = φ b := fun b i hi x hx => by
    have := pos_spec hi
    exact ⟨by rw [hHin, this]; simp [hx], by show (bs[i]?).bind φ = φ b; rw [this]; rfl⟩
  have hback : ∀ i y, lookB Hin i = some y → ∃ b x, pos bs b = some i ∧ lookB s.h b = some x ∧ y = impB (pos bs) s.h x := fun i y hy => by
    rw [hHin] at hy
    cases hb : bs[i]? with
    | none => rw [hb] at hy; cases hy
    | some b =>
      rw [hb] at hy
      obtain ⟨x, hx, rfl⟩ := Option.map_eq_some_iff.1 (by simpa using hy)
      obtain ⟨j, hj⟩ := pos_mem (List.mem_of_getElem? hb)
      have h1 := pos_spec hj
      obtain ⟨l1, e1⟩ := List.getElem?_eq_some_iff.1 h1
      obtain ⟨l2, e2⟩ := List.getElem?_eq_some_iff.1 hb
      have : j = i := (List.getElem_inj hnd).1 (e1.trans e2.symm)
      subst this
      exact ⟨b, x, hj, hx, rfl⟩
  have hposnone : ∀ b, (pos bs b = none) ∨ b ∈ bs := fun b => by
    cases hb : pos bs b with
    | none => exact .inl rfl
    | some i => exact .inr (List.mem_of_getElem? (pos_spec hb))
  have hfsn : (∀ ρ : Nat → Option Nat, (∀ d b, b ∈ refs ρ d → ρ b = none) ∧ ∀ ds b, b ∈ refss ρ ds → ρ b = none) := fun ρ => refs_none ρ
  have hF : ∀ b, b ∈ F → pos bs b = none := fun b hb => by
    rcases List.mem_append.1 hb with hb | hb
    · exact (hfsn _).2 _ _ hb
    · obtain ⟨b', hb', hb⟩ := List.mem_flatMap.1 hb
      unfold refB at hb
      split at hb
      · exact (hfsn _).1 _ _ hb
      · cases hb
  have hrf : ∀ b i ag sz d, pos bs b = some i → lookB s.h b = some (.var ag sz d) → ∀ b', b' ∈ refs (pos bs) d → b' ∈ F := fun b i ag sz d hi hl b' hb' =>
    List.mem_append_right _ (List.mem_flatMap.2 ⟨b, List.mem_of_getElem? (pos_spec hi), by simp [refB, hl, hb']⟩)
  have hhp : HpAt Hin φin (Fz s.h φ S F) w := imp_hp hr.hp hρ hback hF hrf
  have hargs := imps_rep (fs := F) hr.hp hρ ds vs hds fun b hb => List.mem_append_left _ hb
  have hrz := hr.frz F
  have hGBold : ∀ c, GB Hin φin c → ∃ b i x t, pos bs b = some i ∧ lookB s.h b = some x ∧ φ b = some (c, t) := fun c ⟨i, y, t, h1, h2⟩ => by
    obtain ⟨b, x, h3, h4, rfl⟩ := hback i y h1
    exact ⟨b, i, x, t, h3, h4, (hρ b i h3 x h4).2.symm.trans h2⟩
  have hGB : ∀ c, GB Hin φin c → c < w.heap.size ∧ ¬ Fz s.h φ S F c := fun c hc => by
    obtain ⟨b, i, x, t, h1, h2, h3⟩ := hGBold c hc
    refine ⟨hr.plt b x c t h2 h3, ?_⟩
    obtain ⟨h4, h5⟩ := hρ b i h1 x h2
    have hblk := hhp.blk i _ h4
    obtain ⟨x', hx', hfz⟩ := hbs b (List.mem_of_getElem? (pos_spec h1))
    rw [h2] at hx'
    cases hx'
    cases x with
    | var ag sz d =>
      obtain ⟨c', t', g1, g2, _⟩ := hblk
      rw [h5, h3] at g1
      cases g1
      exact g2
    | row fz ver ag sz n f => exact (hblk.2 c t (h5.trans h3)).1 (hfz _ _ _ _ _ _ rfl)
  refine Calls.mono (hC.2 _ w _ φin hrz.slt ((hB.gok hr).mono (fun _ _ => rfl) fun _ h => .inl h) hhp hGB hargs) ?_
  rintro e w' ⟨v, S', φ', he, p1, p2, p3, p4, p5, p6, p7, p8⟩
  have hk : Kept S w w' := fun c hS => p5.block c (hr.slt c hS) fun hG => (hGB c hG).2 (.inl hS)
  have hfr : ∀ b x c t, lookB s.h b = some x → pos bs b = none → φ b = some (c, t) → c < w.heap.size ∧ ¬ GB Hin φin c := fun b x c t hl hn hp =>
    ⟨hr.plt b x c t hl hp, fun hG => by
      obtain ⟨b', i', x', t', g1, g2, g3⟩ := hGBold c hG
      have := hr.hp.inj b b' x x' c t t' hl g2 hp g3
      subst this
      rw [hn] at g1
      cases g1⟩
  have hrel : Rel B s φ S a w' := by
    refine ⟨fun t => RepV.mono (HpExt.refl _ _) hk (fun _ h => h) _ _ (hr.env t), hr.size, ⟨fun b x hl => ?_, hr.hp.inj⟩, hr.nx, fun b h => Nat.lt_of_lt_of_le (hr.slt b h) p5.size, fun b x c t hl hp => Nat.lt_of_lt_of_le (hr.plt b x c t hl hp) p5.size, hr.old, hr.s0, hr.s1, ?_, hr.ext, hr.nx0, hr.def0.move fun D hD _ hS ho => ?_⟩
    · cases hb : pos bs b with
      | none => exact BlkAt.move (HpExt.refl _ _) hk (fun _ h => h) rfl (fun c t hp => let g := hfr b x c t hl hb hp; p5.block c g.1 g.2) (fun _ _ _ h => h) (hr.hp.blk b x hl)
      | some i =>
        have hm : b ∈ bs := List.mem_of_getElem? (pos_spec hb)
        have hfb := List.all_eq_true.1 hflB b hm
        rw [hl] at hfb
        cases x with
        | row fz ver ag sz n f => cases hfb
        | var ag sz d0 =>
          simp only at hfb
          obtain ⟨c, t, o1, o2, _⟩ := hr.hp.blk b _ hl
          obtain ⟨q1, q2⟩ := hρ b i hb _ hl
          have q1' : lookB Hin i = some (.var ag sz d0) := by rw [q1, impB, flat_imp _ _ _ hfb]
          obtain ⟨c', t', n1, n2, x, vs, ty, lo, hi, n3, n4, n5, n6, n7⟩ := p2.blk i _ q1'
          have : φ' i = φin i := ((p3 i).1 _ _ _ q1').2
          rw [this, q2, o1] at n1
          cases n1
          exact ⟨c, t, o1, o2, x, vs, ty, lo, hi, n3, n4, n5, n6, Rep0.toV _ _ (flat_repv d0 x n7 hfb)⟩
    · refine ⟨p5.os.trans hr.below.os, p5.tape.trans hr.below.tape, p5.output.trans hr.below.output, Nat.le_trans hr.below.size p5.size, fun k hk' hG => ?_⟩
      rw [p5.block k (Nat.lt_of_lt_of_le hk' hr.below.size) fun g => ?_]
      · exact hr.below.block k hk' hG
      · obtain ⟨b', i', x', t', _, g2, g3⟩ := hGBold k g
        rcases hr.old b' x' k t' g2 g3 with g | g
        · omega
        · exact hG g
    · have hnG : ¬ GB Hin φin D := fun hG => by
        obtain ⟨b', i', x', t', _, g2, g3⟩ := hGBold D hG
        exact ho b' x' D t' g2 g3 rfl
      exact ⟨p5.block D hD hnG, hS, ho⟩
  exact ⟨v, _, φ, S, he, hrel.put (Rep0.toV _ _ (flat_repv d v p1 hfl)) hd, hK⟩
theorem CallX_sound (hB : BOK E B) (hr : Rel B s φ S a w) {g : FuncId} {ds : List D} {vs : List Value} (hds : RepVs s.h φ S w ds vs) {dst : Option Nat} (hd : ∀ t, dst = some t → t < B.N) {K : St → Prop} (h : CallX E g ds K s dst) :
    fnOk E.P g = true ∧ Calls E.P g ⟨vs⟩ w fun e w' => ∃ v s' φ' S', e = .returned v ∧ Rel B s' φ' S' (a.put dst v) w' ∧ K s' := by
  rcases h with h | h
  · exact CallX0_sound hB hr hds hd h
  · exact CallR_sound hB hr hds hd h
/-- What an operation that is wanted comes to, world by world: how it may run. -/
def Runs (E : Ctx) (B : Base) (a : Act) (w : World) (o : Oper) (K : St → Prop) : Prop :=
  (∃ s' φ' S' n v w', (execOp a.eval o).run E.P w = .ok n w' ∧ (n = .value v ∨ (n = .skip ∧ v = undef)) ∧ Rel B s' φ' S' (a.put o.dst v) w' ∧ K s') ∨
  (∃ g vs, (execOp a.eval o).run E.P w = .ok (.enter g vs) w ∧ Calls E.P g vs w fun e w' => ∃ v s' φ' S', e = .returned v ∧ Rel B s' φ' S' (a.put o.dst v) w' ∧ K s')
theorem Runs.live {o : Oper} {K : St → Prop} (h : Runs E B a w o K) : ∃ s', Live B s' ∧ K s' := by
  rcases h with ⟨s', φ', S', n, v, w', _, _, h1, h3⟩ | ⟨g, vs, _, h⟩
  · exact ⟨s', ⟨_, _, _, _, h1⟩, h3⟩
  · obtain ⟨e, w', fr, ⟨v, s', φ', S', _, h1, h3⟩, _⟩ := h []
    exact ⟨s', ⟨_, _, _, _, h1⟩, h3⟩

theorem AX_runs (hB : BOK E B) (hr : Rel B s φ S a w) {o : Oper} (hd : ∀ t, o.dst = some t → t < B.N) {K : St → Prop} (h : AX E o K s) : Runs E B a w o K := by
  have hg := hB.gok hr
  have hev := hr.ev hg
  have simple : ork (pv E s o.op) (KP K s o.dst) (ef E s o.op (KT K o.dst)) → Runs E B a w o K := by
    intro h
    refine .inl ?_
    unfold ork at h
    split at h
    · rename_i d hpv
      obtain ⟨v, h1, h2⟩ := pv_sound hr.hp hev hpv
      exact ⟨_, φ, S, _, v, w, h1, .inl rfl, hr.put h2 hd, h⟩
    · obtain ⟨d, s', φ', n, v, w', h1, h2, h3, h4, h5, h6⟩ := ef_sound hr hev h
      exact ⟨_, φ', S, n, v, w', h1, h2, h5.put h6 hd, h3⟩
  unfold AX at h
  split at h
  · rename_i f xs ts ho
    split at h
    · rename_i g cap hfn
      have hf := hev f
      rw [hfn] at hf
      simp only [RepV] at hf
      obtain ⟨cv, hf, hcap⟩ := hf
      obtain ⟨h1, h2⟩ := CallX_sound hB hr ((reps_map hev xs).append hcap) hd h
      exact .inr ⟨g, _, by rw [execOp_fn ho hf]; exact run_callFunc h1 _ _, h2⟩
    · exact h.elim
  · exact simple h

/-- All slots named are slots. -/
def dstOk (N : Nat) (o : Oper) : Bool := match o.dst with
  | some t => decide (t < N)
  | none => true
theorem dstOk.spec {N : Nat} {o : Oper} (h : dstOk N o = true) : ∀ t, o.dst = some t → t < N := fun t e => by
  unfold dstOk at h
  rw [e] at h
  simpa using h

/-- The fence that bars nothing, in a round of a range over a function or in none. -/
def WF (r : Option Nat) : Fence := ⟨fun _ => True, none, false, r⟩
theorem WF.calls {r : Option Nat} {n : Nat} {P : Program} {f : FuncId} {args : Array Value} {w : World} {R : Ending → World → Prop} (h : Calls P f args w R) : CallsIn (WF r) n P f args w R :=
  (callsIn_wide (n := n)).2 h
theorem WF.room {r : Option Nat} (n : Nat) : (WF r).room n := fun d hd => by cases hd
theorem AX_nodefer {o : Oper} {K : St → Prop} (h : AX E o K s) (c : Call) : o.op ≠ .defer c := fun e => by
  unfold AX at h
  rw [e] at h
  exact h

theorem AT_op (hB : BOK E B) (hr : Rel B s φ S a w) {r : Option Nat} {ops : Array Oper} {i : Nat} {o : Oper} (hi : ops[i]? = some o) (hd : dstOk B.N o = true) {K : St → Prop} {K' : Act → World → Prop} {Q : Exit → Act → World → Prop}
    (hK : ∀ s' φ' S' a' w', Rel B s' φ' S' a' w' → K s' → K' a' w') (h : AT E ops o K s) : wpOpIn (WF r) 0 E.P ops Q i K' a w := by
  have go : AX E o K s → o.wpIn (WF r) 0 E.P a w K' Q := fun h => by
    refine ⟨fun _ _ => trivial, ?_⟩
    rw [Oper.semAt_eq _ _ _ (AX_nodefer h)]
    rcases AX_runs hB hr (dstOk.spec hd) h with ⟨s', φ', S', n, v, w', h1, h2, h3, h4⟩ | ⟨g, vs, h1, h2⟩
    · rw [h1]
      rcases h2 with rfl | ⟨rfl, rfl⟩
      · exact hK _ _ _ _ _ h3 h4
      · exact hK _ _ _ _ _ h3 h4
    · rw [h1]
      refine ⟨fun h => (by cases h), WF.calls (Calls.mono h2 ?_)⟩
      rintro e w' ⟨v, s', φ', S', rfl, h3, h4⟩
      exact hK _ _ _ _ _ h3 h4
  unfold wpOpIn
  simp only [hi]
  unfold AT at h
  split at h
  · rename_i hgu
    have : Region.wanted o (yielded ops a.tmps) = true := by simp [Region.wanted, hgu]
    rw [if_pos this]
    exact go h
  · rename_i g want hgu
    split at h
    · rename_i t ht
      unfold gd at h
      split at h
      · rename_i b hb
        have hev := hr.env t
        rw [hb] at hev
        simp only [RepV, Rep0] at hev
        have hy : yielded ops a.tmps g = some b := by
          unfold yielded
          rw [ht]
          simp only [Option.bind_some]
          rw [Array.getD_eq_getD_getElem?] at hev
          cases hx : a.tmps[t]? with
          | none => rw [hx] at hev; simp [undef] at hev
          | some x => rw [hx] at hev; simp only [Option.getD_some] at hev; subst hev; rfl
        have hw : Region.wanted o (yielded ops a.tmps) = (b == want) := by simp [Region.wanted, hgu, hy]
        rw [hw]
        by_cases e : b = want
        · subst e
          simp only [beq_self_eq_true, if_true]
          exact go (h.1 rfl)
        · have : (b == want) = false := by simpa using e
          rw [this]
          simp only [Bool.false_eq_true, if_false]
          refine ⟨fun _ _ => trivial, ?_⟩
          exact hK _ _ _ _ _ (hr.put (d := .tup []) (v := undef) (by simp only [RepV, RepVs, undef]; exact ⟨[], rfl, rfl⟩) (dstOk.spec hd)) (h.2 e)
      · rename_i ds hb
        have hev := hr.env t
        rw [hb] at hev
        simp only [RepV] at hev
        obtain ⟨vs, hev, _⟩ := hev
        have hy : yielded ops a.tmps g = none := by
          unfold yielded
          rw [ht]
          simp only [Option.bind_some]
          rw [Array.getD_eq_getD_getElem?] at hev
          cases hx : a.tmps[t]? with
          | none => rfl
          | some x => rw [hx] at hev; simp only [Option.getD_some] at hev; subst hev; rfl
        have hw : Region.wanted o (yielded ops a.tmps) = false := by simp [Region.wanted, hgu, hy]
        rw [hw]
        simp only [Bool.false_eq_true, if_false]
        refine ⟨fun _ _ => trivial, ?_⟩
        exact hK _ _ _ _ _ (hr.put (d := .tup []) (v := undef) (by simp only [RepV, RepVs, undef]; exact ⟨[], rfl, rfl⟩) (dstOk.spec hd)) h
      · exact h.elim
    · exact h.elim

/-- A region whose operations run in the text's order. -/
theorem AR_text (hB : BOK E B) {r : Option Nat} {ops : Array Oper} {K : St → Prop} {Q : Exit → Act → World → Prop} (hd : ops.all (dstOk B.N) = true) (hK : ∀ s' φ' S' a' w', Rel B s' φ' S' a' w' → K s' → Q .normal a' w') :
    ∀ (n i : Nat) (s : St) (φ : Ph) (S : Nat → Prop) (a : Act) (w : World), i + n = ops.size → Rel B s φ S a w → AR E ops (ops.toList.drop i) K s → wpOpsIn (WF r) 0 E.P ops Q (List.range' i n) a w
  | 0, i, s, φ, S, a, w, hn, hr, h => by
    have : ops.toList.drop i = [] := by simp; omega
    rw [this] at h
    exact hK _ _ _ _ _ hr h
  | n + 1, i, s, φ, S, a, w, hn, hr, h => by
    have hlt : i < ops.toList.length := by simp; omega
    rw [List.drop_eq_getElem_cons hlt] at h
    simp only [AR] at h
    rw [List.range'_succ, wpOpsIn_cons]
    refine AT_op hB hr (o := ops.toList[i]) (by simp [Array.getElem?_eq_getElem (by simpa using hlt)]) ?_ (fun s' φ' S' a' w' hr' h' => AR_text hB hd hK n (i + 1) s' φ' S' a' w' (by omega) hr' h') h
    have := Array.all_eq_true.1 hd i (by simpa using hlt)
    simpa using this
end

end Go.Proofs.YtmcinfbckdiaoaaGreatDoor.Lv

set_option linter.unusedVariables false
set_option linter.unusedSimpArgs false
namespace Go.Proofs.YtmcinfbckdiaoaaGreatDoor.Lv
open Go Go.RowKit

mutual
/-- The own blocks that it leads to. -/
def blks : D → List Nat
  | .sl b _ _ _ | .ad b _ | .el b _ _ _ | .vs b _ _ _ => [b]
  | .agg cs | .fn _ cs | .tup cs => blkss cs
  | _ => []
def blkss : List D → List Nat
  | [] => []
  | d :: ds => blks d ++ blkss ds
end
def shape : Blk → Blk
  | .var ag sz d => .var ag sz .unk
  | .row fz ver ag sz n f => .row false ver ag sz 0 fun _ => .unk
def nofz : Blk → Blk
  | .var ag sz d => .var ag sz d
  | .row fz ver ag sz n f => .row false ver ag sz 0 f
def SameS (h h' : Hp) (b : Nat) : Prop := (lookB h b).map shape = (lookB h' b).map shape
def Same (h h' : Hp) (b : Nat) : Prop := (lookB h b).map nofz = (lookB h' b).map nofz

section
variable {h h' : Hp} {b : Nat}
theorem SameS.cases (e : SameS h h' b) : (lookB h b = none ∧ lookB h' b = none) ∨ (∃ ag sz d d', lookB h b = some (.var ag sz d) ∧ lookB h' b = some (.var ag sz d')) ∨
    (∃ fz fz' ver ag sz n n' f f', lookB h b = some (.row fz ver ag sz n f) ∧ lookB h' b = some (.row fz' ver ag sz n' f')) := by
  unfold SameS at e
  cases h1 : lookB h b with
  | none => cases h2 : lookB h' b with
    | none => exact .inl ⟨rfl, rfl⟩
    | some y => rw [h1, h2] at e; cases e
  | some x => cases h2 : lookB h' b with
    | none => rw [h1, h2] at e; cases e
    | some y =>
      rw [h1, h2] at e
      cases x <;> cases y <;> simp only [Option.map_some, shape, Option.some.injEq, Blk.var.injEq, Blk.row.injEq, reduceCtorEq, true_and, and_true] at e
      · obtain ⟨rfl, rfl⟩ := e
        exact .inr (.inl ⟨_, _, _, _, rfl, rfl⟩)
      · obtain ⟨rfl, rfl, rfl⟩ := e
        exact .inr (.inr ⟨_, _, _, _, _, _, _, _, _, rfl, rfl⟩)
theorem Same.cases (e : Same h h' b) : (lookB h b = none ∧ lookB h' b = none) ∨ (∃ ag sz d, lookB h b = some (.var ag sz d) ∧ lookB h' b = some (.var ag sz d)) ∨
    (∃ fz fz' ver ag sz n n' f, lookB h b = some (.row fz ver ag sz n f) ∧ lookB h' b = some (.row fz' ver ag sz n' f)) := by
  unfold Same at e
  cases h1 : lookB h b with
  | none => cases h2 : lookB h' b with
    | none => exact .inl ⟨rfl, rfl⟩
    | some y => rw [h1, h2] at e; cases e
  | some x => cases h2 : lookB h' b with
    | none => rw [h1, h2] at e; cases e
    | some y =>
      rw [h1, h2] at e
      cases x <;> cases y <;> simp only [Option.map_some, nofz, Option.some.injEq, Blk.var.injEq, Blk.row.injEq, reduceCtorEq, true_and, and_true] at e
      · obtain ⟨rfl, rfl, rfl⟩ := e
        exact .inr (.inl ⟨_, _, _, rfl, rfl⟩)
      · obtain ⟨rfl, rfl, rfl, rfl⟩ := e
        exact .inr (.inr ⟨_, _, _, _, _, _, _, _, rfl, rfl⟩)
theorem Same.toS (e : Same h h' b) : SameS h h' b := by
  rcases e.cases with ⟨h1, h2⟩ | ⟨ag, sz, d, h1, h2⟩ | ⟨fz, fz', ver, ag, sz, n, n', f, h1, h2⟩ <;> simp [SameS, h1, h2, shape]
theorem Same.of_eq (e : lookB h b = lookB h' b) : Same h h' b := by unfold Same; rw [e]
theorem SameS.symm (e : SameS h h' b) : SameS h' h b := Eq.symm e
theorem Same.symm (e : Same h h' b) : Same h' h b := Eq.symm e

theorem cur_congr (e : SameS h h' b) (v : Nat) : cur h b v = cur h' b v := by
  rcases e.cases with ⟨h1, h2⟩ | ⟨ag, sz, d, d', h1, h2⟩ | ⟨fz, fz', ver, ag, sz, n, n', f, f', h1, h2⟩ <;> simp [cur, h1, h2]
theorem ldd_congr {ag : Bool} {n : Nat} {d : D} (e : ∀ b ∈ blks d, Same h h' b) : ldd h ag n d = ldd h' ag n d := by
  cases d <;> try rfl
  case ad b off =>
    rcases (e b (by simp [blks])).cases with ⟨h1, h2⟩ | ⟨ag, sz, d, h1, h2⟩ | ⟨fz, fz', ver, ag, sz, n, n', f, h1, h2⟩ <;> simp [ldd, h1, h2]
  case el b ver i fo =>
    rcases (e b (by simp [blks])).cases with ⟨h1, h2⟩ | ⟨ag, sz, d, h1, h2⟩ | ⟨fz, fz', ver, ag, sz, n, n', f, h1, h2⟩ <;> simp [ldd, h1, h2]
theorem bstr_congr {d : D} (e : ∀ b ∈ blks d, Same h h' b) : bstr h d = bstr h' d := by
  cases d <;> try rfl
  case sl b ver off n =>
    rcases (e b (by simp [blks])).cases with ⟨h1, h2⟩ | ⟨ag, sz, d, h1, h2⟩ | ⟨fz, fz', ver, ag, sz, n, n', f, h1, h2⟩ <;> simp [bstr, h1, h2]
theorem lenD_congr {k : TK} {d : D} (e : ∀ b ∈ blks d, SameS h h' b) : lenD h k d = lenD h' k d := by
  cases k <;> cases d <;> try rfl
  rename_i b ver off n
  rcases (e b (by simp [blks])).cases with ⟨h1, h2⟩ | ⟨ag, sz, d, d', h1, h2⟩ | ⟨fz, fz', ver, ag, sz, n, n', f, f', h1, h2⟩ <;> simp [lenD, h1, h2]
theorem one_congr {d : D} (e : ∀ b ∈ blks d, SameS h h' b) : one h d = one h' d := by
  cases d <;> try rfl
  case sl b ver off n => exact cur_congr (e b (by simp [blks])) _
  case el b ver i fo => exact cur_congr (e b (by simp [blks])) _
theorem blkss_mem : ∀ {ds : List D} {d : D}, d ∈ ds → ∀ b ∈ blks d, b ∈ blkss ds
  | x :: ds, d, hd, b, hb => by
    simp only [blkss, List.mem_append]
    rcases List.mem_cons.1 hd with rfl | hd
    · exact .inl hb
    · exact .inr (blkss_mem hd b hb)
theorem all_one_congr {ds : List D} (e : ∀ b ∈ blkss ds, SameS h h' b) : ds.all (one h) = ds.all (one h') := by
  induction ds with
  | nil => rfl
  | cons d ds ih =>
    simp only [blkss, List.mem_append] at e
    simp only [List.all_cons, one_congr fun b hb => e b (.inl hb), ih fun b hb => e b (.inr hb)]
theorem cellsOf_blks {ag : Bool} {d : D} {cs : List D} (hc : cellsOf ag d = some cs) : ∀ b ∈ blkss cs, b ∈ blks d := by
  unfold cellsOf at hc
  cases ag with
  | true =>
    simp only [if_true] at hc
    cases d <;> simp only [asAgg, Option.some.injEq, reduceCtorEq] at hc
    subst hc
    intro b hb
    simpa [blks] using hb
  | false =>
    simp only [Bool.false_eq_true, if_false, Option.some.injEq] at hc
    subst hc
    intro b hb
    simpa [blkss] using hb
theorem chk_congr {ag : Bool} {sz : Nat} {d : D} (e : ∀ b ∈ blks d, SameS h h' b) : chk h ag sz d = chk h' ag sz d := by
  unfold chk
  cases hc : cellsOf ag d with
  | none => rfl
  | some cs => simp only [all_one_congr fun b hb => e b (cellsOf_blks hc b hb)]
theorem fits_congr {E : Ctx} : ∀ {ps : List (Nat × D)} {pl : List (Nat × Nat)}, (∀ p ∈ ps, ∀ b ∈ blks p.2, SameS h h' b) → fits E h ps pl = fits E h' ps pl
  | [], _, _ => rfl
  | (i, d) :: r, pl, e => by
    simp only [fits]
    rw [fits_congr (ps := r) fun p hp => e p (List.mem_cons_of_mem _ hp)]
    cases pl[i]? with
    | none => rfl
    | some q =>
      obtain ⟨off, t⟩ := q
      simp only
      cases hc : cellsOf (E.tt t).ag d with
      | none => rfl
      | some cs => simp only [all_one_congr fun b hb => e (i, d) (by simp) b (cellsOf_blks hc b hb)]
end

def isLoad : Op → Bool
  | .load .. | .convert .. => true
  | _ => false

/-- What only reckons or reads, and loads nothing, looks at no more than the shapes. -/
theorem pv_congrS {E : Ctx} {s s' : St} {op : Op} (hl : isLoad op = false) (he : ∀ x ∈ op.operands, ev E s x = ev E s' x) (hh : ∀ x ∈ op.operands, ∀ b ∈ blks (ev E s x), SameS s.h s'.h b) : pv E s op = pv E s' op := by
  cases op <;> try rfl
  case load => cases hl
  case convert => cases hl
  case move x => simp only [pv, he x (by simp [Op.operands])]
  case assign x => simp only [pv, he x (by simp [Op.operands])]
  case pick c a b => simp only [pv, he c (by simp [Op.operands]), he a (by simp [Op.operands]), he b (by simp [Op.operands])]
  case field t x i => simp only [pv, he x (by simp [Op.operands])]
  case binOp op t x y yt => simp only [pv, he x (by simp [Op.operands]), he y (by simp [Op.operands])]
  case unOp op t x => simp only [pv, he x (by simp [Op.operands])]
  case index t x i => simp only [pv, he x (by simp [Op.operands]), he i (by simp [Op.operands])]
  case extract x i => simp only [pv, he x (by simp [Op.operands])]
  case makeFunc fn first cap =>
    obtain ⟨first⟩ := first
    obtain ⟨cap⟩ := cap
    have : cap.map (ev E s) = cap.map (ev E s') := List.map_congr_left fun x hx => he x (by simp [Op.operands, hx])
    cases fn <;> cases first <;> simp only [pv, this]
  case fieldAddr t x i =>
    have h1 := hh x (by simp [Op.operands])
    simp only [pv, ← he x (by simp [Op.operands])]
    cases hx : ev E s x <;> simp only
    case el b v j fo => simp only [cur_congr (h1 b (by simp [hx, blks]))]
  case nilCheck x =>
    have h1 := hh x (by simp [Op.operands])
    simp only [pv, ← he x (by simp [Op.operands])]
    cases hx : ev E s x <;> simp only
    case el b v j fo => simp only [cur_congr (h1 b (by simp [hx, blks]))]
  case slice t x lo hi mx =>
    have h1 := hh x (by simp [Op.operands])
    have hlo : lo.map (ev E s) = lo.map (ev E s') := by cases lo with
      | none => rfl
      | some y => simp only [Option.map_some, he y (by simp [Op.operands])]
    have hhi : hi.map (ev E s) = hi.map (ev E s') := by cases hi with
      | none => rfl
      | some y => simp only [Option.map_some, he y (by simp [Op.operands])]
    cases mx with
    | some _ => rfl
    | none =>
      simp only [pv, ← he x (by simp [Op.operands]), hlo, hhi]
      cases hx : ev E s x <;> try rfl
      case sl b v off n =>
        rcases (h1 b (by simp [hx, blks])).cases with ⟨h2, h3⟩ | ⟨ag, sz, d, d', h2, h3⟩ | ⟨fz, fz', ver, ag, sz, n, n', f, f', h2, h3⟩ <;> simp only [h2, h3]
  case indexAddr t x i =>
    have h1 := hh x (by simp [Op.operands])
    simp only [pv, ← he x (by simp [Op.operands]), ← he i (by simp [Op.operands])]
    generalize ev E s i = y
    generalize (E.tt t).k = k
    cases k <;> try rfl
    case slc e =>
      cases hx : ev E s x <;> (try rfl) <;> cases y <;> try rfl
      case sl.int b v off n k i' =>
        rcases (h1 b (by simp [hx, blks])).cases with ⟨h2, h3⟩ | ⟨ag, sz, d, d', h2, h3⟩ | ⟨fz, fz', ver, ag, sz, n, n', f, f', h2, h3⟩ <;> simp only [h2, h3]
    case arr n e =>
      cases hx : ev E s x <;> (try rfl) <;> cases y <;> try rfl
      case el.int b v j off k i' =>
        simp only [cur_congr (h1 b (by simp [hx, blks]))]
  case build t ps =>
    obtain ⟨ps⟩ := ps
    have h1 : (ps.map fun p => (p.1, ev E s p.2)) = ps.map fun p => (p.1, ev E s' p.2) := List.map_congr_left fun p hp => by
      rw [he p.2 (by simp only [Op.operands, List.mem_toArray, List.mem_map]; exact ⟨p, hp, rfl⟩)]
    have h2 : ∀ p ∈ (ps.map fun p => (p.1, ev E s p.2)), ∀ b ∈ blks p.2, SameS s.h s'.h b := fun p hp b hb => by
      obtain ⟨q, hq, rfl⟩ := List.mem_map.1 hp
      exact hh q.2 (by simp only [Op.operands, List.mem_toArray, List.mem_map]; exact ⟨q, hq, rfl⟩) b hb
    rw [h1] at h2
    simp only [pv, h1, fits_congr h2]
  case call c =>
    obtain ⟨callee, ⟨args⟩, ⟨tys⟩⟩ := c
    cases callee with
    | value f => rfl
    | invoke r n => rfl
    | builtin bi =>
      cases bi <;> try rfl
      case len =>
        match args, tys with
        | [x], [t] =>
          have h1 := hh x (by simp [Op.operands, Call.operands])
          simp only [pv, ← he x (by simp [Op.operands, Call.operands]), lenD_congr h1]
        | [], _ => rfl
        | _ :: _ :: _, _ => rfl
        | [_], [] => rfl
        | [_], _ :: _ :: _ => rfl
      case max =>
        match args with
        | [x, y] => simp only [pv, he x (by simp [Op.operands, Call.operands]), he y (by simp [Op.operands, Call.operands])]
        | [] => rfl
        | [_] => rfl
        | _ :: _ :: _ :: _ => rfl
      case min =>
        match args with
        | [x, y] => simp only [pv, he x (by simp [Op.operands, Call.operands]), he y (by simp [Op.operands, Call.operands])]
        | [] => rfl
        | [_] => rfl
        | _ :: _ :: _ :: _ => rfl
theorem pv_congr {E : Ctx} {s s' : St} {op : Op} (he : ∀ x ∈ op.operands, ev E s x = ev E s' x) (hh : ∀ x ∈ op.operands, ∀ b ∈ blks (ev E s x), Same s.h s'.h b) : pv E s op = pv E s' op := by
  cases hl : isLoad op with
  | false => exact pv_congrS hl he fun x hx b hb => (hh x hx b hb).toS
  | true =>
    cases op <;> simp only [isLoad, Bool.false_eq_true] at hl
    case load t x =>
      have h1 := hh x (by simp [Op.operands])
      simp only [pv, ← he x (by simp [Op.operands]), ldd_congr h1]
    case convert src t x =>
      have h1 := hh x (by simp [Op.operands])
      simp only [pv, ← he x (by simp [Op.operands])]
      have h2 := bstr_congr h1
      generalize ev E s x = d at h2
      unfold conv
      generalize (E.tt t).k = k
      cases k <;> cases d <;> simp only [h2]

end Go.Proofs.YtmcinfbckdiaoaaGreatDoor.Lv

set_option linter.unusedVariables false
set_option linter.unusedSimpArgs false
namespace Go.Proofs.YtmcinfbckdiaoaaGreatDoor.Lv
open Go Go.RowKit

inductive Kd where
  | pure | call | new | sto | app | oth
  deriving DecidableEq
def kd (E : Ctx) : Op → Kd
  | .call c => match c.callee with
    | .value (.func g) => if E.give g then .oth else .call
    | .value _ => .oth
    | .builtin .len | .builtin .min | .builtin .max => .pure
    | .builtin .append => .app
    | _ => .oth
  | .box .. | .alloc .. | .makeSlice .. | .buildSlice .. => .new
  | .store .. => .sto
  | .convert _ t _ => match (E.tt t).k with
    | .slc _ => .new
    | _ => .pure
  | .move .. | .assign .. | .pick .. | .load .. | .fieldAddr .. | .field .. | .nilCheck .. | .binOp .. | .unOp .. | .slice .. | .indexAddr .. | .index .. | .extract .. | .makeFunc .. | .build .. => .pure
  | _ => .oth
/-- How the own blocks may have turned behind an operation. -/
def HRel (k : Kd) (h : Hp) (nx : Nat) (h' : Hp) : Prop := match k with
  | .pure => h' = h
  | .call => ∀ b, b < nx → Same h h' b
  | .new => ∀ b, b ≠ nx → lookB h b = lookB h' b
  | .sto => ∀ b, SameS h h' b
  | .app => ∀ b ag sz d, b ≠ nx → lookB h b = some (.var ag sz d) → lookB h' b = some (.var ag sz d)
  | .oth => True
theorem HRel.refl (k : Kd) (h : Hp) (nx : Nat) : HRel k h nx h := by cases k <;> first | (simp [HRel, Same, SameS]; done) | exact fun _ _ _ _ _ h => h
def Agree (E : Ctx) (op : Op) (s : St) (e' : Nat → D) : Prop := ∀ x ∈ op.operands, ev E s x = ev E ⟨e', s.h, s.nx⟩ x

theorem same_frz (bs : List Nat) (h : Hp) (b : Nat) : Same h (frz bs h) b := by
  unfold Same
  rw [lookB_frz]
  cases lookB h b with
  | none => rfl
  | some x => cases x <;> rfl
theorem Same.trans' {h h' h'' : Hp} {b : Nat} (e : Same h h' b) (e' : Same h' h'' b) : Same h h'' b := Eq.trans e e'
theorem sameS_up_var {h : Hp} {b : Nat} {ag : Bool} {sz : Nat} {d d' : D} (hl : lookB h b = some (.var ag sz d)) (b' : Nat) : SameS h (up h b (.var ag sz d')) b' := by
  unfold SameS
  rw [lookB_up]
  by_cases e : b' = b
  · subst e; simp [hl, shape]
  · simp [e]
theorem sameS_up_row {h : Hp} {b : Nat} {fz fz' : Bool} {ver : Nat} {ag : Bool} {sz n n' : Nat} {f f' : Nat → D} (hl : lookB h b = some (.row fz ver ag sz n f)) (b' : Nat) : SameS h (up h b (.row fz' ver ag sz n' f')) b' := by
  unfold SameS
  rw [lookB_up]
  by_cases e : b' = b
  · subst e; simp [hl, shape]
  · simp [e]
theorem new_look (h : Hp) (nx : Nat) (x : Blk) (b : Nat) (hb : b ≠ nx) : lookB h b = lookB ((nx, x) :: h) b := by simp [lookB, hb]

section
variable {E : Ctx} {s : St}
theorem ef_det {op : Op} {K : D → St → Prop} (h : ef E s op K) :
    (∃ d h nx, HRel (kd E op) s.h s.nx h ∧ K d ⟨s.e, h, nx⟩ ∧ ∀ e' (K' : D → St → Prop), Agree E op s e' → K' d ⟨e', h, nx⟩ → ef E ⟨e', s.h, s.nx⟩ op K') ∨
    (∃ p : Bool → Prop, p false ∧ (∀ b, p b → K (.bool b) s) ∧ ∀ e' (K' : D → St → Prop), Agree E op s e' → (∀ b, p b → K' (.bool b) ⟨e', s.h, s.nx⟩) → ef E ⟨e', s.h, s.nx⟩ op K') := by
  cases op
  case box t x =>
    simp only [ef] at h
    obtain ⟨h1, h2, h3⟩ := h
    refine .inl ⟨_, _, _, new_look _ _ _, h3, fun e' K' ha hk => ?_⟩
    simp only [ef, ← ha x (by simp [Op.operands])]
    exact ⟨h1, h2, hk⟩
  case alloc t =>
    simp only [ef] at h
    obtain ⟨h1, h2, h3⟩ := h
    exact .inl ⟨_, _, _, new_look _ _ _, h3, fun e' K' ha hk => ⟨h1, h2, hk⟩⟩
  case store t a x =>
    simp only [ef] at h
    obtain ⟨h1, h2, h3⟩ := h
    split at h3
    · rename_i b off hev
      split at h3
      · rename_i ag sz d hl
        obtain ⟨d', h4, h5⟩ := h3
        refine .inl ⟨_, _, _, sameS_up_var hl, h5, fun e' K' ha hk => ?_⟩
        simp only [ef, ← ha x (by simp [Op.operands]), ← ha a (by simp [Op.operands]), hev, hl]
        exact ⟨h1, h2, d', h4, hk⟩
      · exact h3.elim
    · rename_i b ver i fo hev
      split at h3
      · rename_i ver' ag sz n f hl
        obtain ⟨rfl, h5, d', h6, h7⟩ := h3
        refine .inl ⟨_, _, _, sameS_up_row hl, h7, fun e' K' ha hk => ?_⟩
        simp only [ef, ← ha x (by simp [Op.operands]), ← ha a (by simp [Op.operands]), hev, hl]
        exact ⟨h1, h2, trivial, h5, d', h6, hk⟩
      · exact h3.elim
    · exact h3.elim
  case makeSlice t l c =>
    simp only [ef] at h
    split at h
    · rename_i e k n k' n' hk hl hc
      obtain ⟨h1, h2, h3, h4, h5, h6, h7, h8, h9⟩ := h
      refine .inl ⟨_, _, _, new_look _ _ _, h9, fun e' K' ha hk' => ?_⟩
      simp only [ef, ← ha l (by simp [Op.operands]), ← ha c (by simp [Op.operands]), hk, hl, hc]
      exact ⟨h1, h2, h3, h4, h5, h6, h7, h8, hk'⟩
    · exact h.elim
  case buildSlice t n ps =>
    obtain ⟨ps⟩ := ps
    simp only [ef] at h
    split at h
    · rename_i e hk
      obtain ⟨h1, h2, h3, h4, h5, h6, h7, h8⟩ := h
      refine .inl ⟨_, _, _, new_look _ _ _, h8, fun e' K' ha hk' => ?_⟩
      have hm : ∀ p ∈ ps, ev E ⟨e', s.h, s.nx⟩ p.2 = ev E s p.2 := fun p hp => (ha p.2 (by simp only [Op.operands, List.mem_toArray, List.mem_map]; exact ⟨p, hp, rfl⟩)).symm
      have hm1 : (ps.map fun p => ev E ⟨e', s.h, s.nx⟩ p.2) = ps.map fun p => ev E s p.2 := List.map_congr_left hm
      have hm2 : (ps.all fun p => chk s.h (E.tt e).ag (E.tt e).sz (ev E ⟨e', s.h, s.nx⟩ p.2) && cl (ev E ⟨e', s.h, s.nx⟩ p.2)) = true := by
        rw [List.all_eq_true] at h7 ⊢
        intro p hp
        rw [hm p hp]
        exact h7 p hp
      simp only [ef, hk, hm1]
      exact ⟨h1, h2, h3, h4, h5, h6, hm2, hk'⟩
    · exact h.elim
  case convert src t x =>
    simp only [ef] at h
    split at h
    · rename_i e l hs ht hx
      obtain ⟨h1, h2, h3⟩ := h
      refine .inl ⟨_, _, _, ?_, h3, fun e' K' ha hk => ?_⟩
      · simp only [kd, ht]
        exact new_look _ _ _
      · simp only [ef, ← ha x (by simp [Op.operands]), hs, ht, hx]
        exact ⟨h1, h2, hk⟩
    · exact h.elim
  case binOp op t x y yt =>
    cases op
    case eql =>
      simp only [ef] at h
      split at h
      · rename_i e hk hx hy
        refine .inl ⟨_, _, _, rfl, h, fun e' K' ha hk' => ?_⟩
        simp only [ef, ← ha x (by simp [Op.operands]), ← ha y (by simp [Op.operands]), hk, hx, hy]
        exact hk'
      · rename_i e ag sz n f hk hx hy
        refine .inr ⟨fun b => b = true → n = 0, by simp, h, fun e' K' ha hk' => ?_⟩
        simp only [ef, ← ha x (by simp [Op.operands]), ← ha y (by simp [Op.operands]), hk, hx, hy]
        exact hk'
      · exact h.elim
    all_goals exact (show False from h).elim
  case call c =>
    have h' := h
    unfold ef at h'
    split at h' <;> first | (rename_i e; cases e) | exact h'.elim
    rename_i x y t u
    simp only [ef] at h
    split at h
    · rename_i e m g k h1 h3
      obtain ⟨k1, k2, k3, k4, k5, k6, h⟩ := h
      have rerun : ∀ {e' : Nat → D} {K' : D → St → Prop}, Agree E (.call { callee := .builtin .append, args := #[x, y], argTypes := #[t, u] }) s e' →
          (ev E ⟨e', s.h, s.nx⟩ x = ev E s x) ∧ (ev E ⟨e', s.h, s.nx⟩ y = ev E s y) := fun ha => ⟨(ha x (by simp [Op.operands, Call.operands])).symm, (ha y (by simp [Op.operands, Call.operands])).symm⟩
      split at h
      · rename_i hx
        obtain ⟨h4, h5, h6⟩ := h
        refine .inl ⟨_, _, _, fun c ag' sz' d' hc hlc => (by rw [← new_look _ _ _ _ hc]; exact hlc), h6, fun e' K' ha hk => ?_⟩
        obtain ⟨a1, a2⟩ := rerun (K' := K') ha
        simp only [ef, a1, a2, h1, h3, hx]
        exact ⟨k1, k2, k3, k4, k5, k6, h4, h5, hk⟩
      · rename_i b ver n hx
        split at h
        · rename_i ver' ag sz n' f hl
          obtain ⟨rfl, rfl, rfl, h4, h5, h6⟩ := h
          refine .inl ⟨_, _, _, fun c ag' sz' d' hc hlc => ?_, h6, fun e' K' ha hk => ?_⟩
          · have hcb : c ≠ b := fun e => by subst e; rw [hl] at hlc; cases hlc
            rw [lookB_up]; simp [hcb, hlc]
          obtain ⟨a1, a2⟩ := rerun (K' := K') ha
          simp only [ef, a1, a2, h1, h3, hx, hl]
          exact ⟨k1, k2, k3, k4, k5, k6, trivial, trivial, trivial, h4, h5, hk⟩
        · exact h.elim
      · exact h.elim
    · exact h.elim
  all_goals exact (show False from h).elim

/-- An operation that is wanted comes to one thing; or to a Boolean that is not known. -/
def Det (A : (St → Prop) → St → Prop) (ag : (Nat → D) → Prop) (k : Kd) (dst : Option Nat) (K : St → Prop) (s : St) : Prop :=
    (∃ d h nx, HRel k s.h s.nx h ∧ K ((⟨s.e, h, nx⟩ : St).put dst d) ∧ ∀ e' K', ag e' → K' ((⟨e', h, nx⟩ : St).put dst d) → A K' ⟨e', s.h, s.nx⟩) ∨
    (∃ p : Bool → Prop, p false ∧ (∀ b, p b → K (s.put dst (.bool b))) ∧ ∀ e' K', ag e' → (∀ b, p b → K' ((⟨e', s.h, s.nx⟩ : St).put dst (.bool b))) → A K' ⟨e', s.h, s.nx⟩)
theorem AX_det {o : Oper} {K : St → Prop} (h : AX E o K s) : Det (AX E o) (Agree E o.op s) (kd E o.op) o.dst K s := by
  have simple : (∀ K s', AX E o K s' = ork (pv E s' o.op) (KP K s' o.dst) (ef E s' o.op (KT K o.dst))) → Det (AX E o) (Agree E o.op s) (kd E o.op) o.dst K s := by
    intro hAX
    rw [hAX] at h
    have hpv : ∀ e', Agree E o.op s e' → pv E ⟨e', s.h, s.nx⟩ o.op = pv E s o.op := fun e' ha => (pv_congr ha fun x hx b hb => Same.of_eq rfl).symm
    unfold ork at h
    split at h
    · rename_i d hd
      refine .inl ⟨d, s.h, s.nx, HRel.refl _ _ _, h, fun e' K' ha hk => ?_⟩
      rw [hAX, hpv e' ha, hd]
      exact hk
    · rename_i hd
      rcases ef_det h with ⟨d, h1, nx, h2, h3, h4⟩ | ⟨p, h1, h2, h3⟩
      · refine .inl ⟨d, h1, nx, h2, h3, fun e' K' ha hk => ?_⟩
        rw [hAX, hpv e' ha, hd]
        exact h4 e' _ ha hk
      · refine .inr ⟨p, h1, h2, fun e' K' ha hk => ?_⟩
        rw [hAX, hpv e' ha, hd]
        exact h3 e' _ ha hk
  by_cases hc : ∃ f xs ts, o.op = .call { callee := .value f, args := ⟨xs⟩, argTypes := ts }
  · obtain ⟨f, xs, ts, ho⟩ := hc
    unfold AX at h
    rw [ho] at h
    simp only at h
    split at h
    · rename_i g cap hf
      have hx : ∀ e', Agree E o.op s e' → ev E ⟨e', s.h, s.nx⟩ f = .fn g cap ∧ xs.map (ev E ⟨e', s.h, s.nx⟩) = xs.map (ev E s) := fun e' ha => by
        rw [ho] at ha
        exact ⟨(ha f (by simp [Op.operands, Call.operands])).symm.trans hf, List.map_congr_left fun x hx => (ha x (by simp [Op.operands, Call.operands, hx])).symm⟩
      rcases h with ⟨bs, d, h', h0, h1, h2, h3⟩ | ⟨bs, d, h1, h2, h3, h4, h5⟩
      · refine .inl ⟨exD (ex bs s.nx) d, _, _, ?_, h3, fun e' K' ha hk => ?_⟩
        · rw [ho]
          cases f with
          | tmp => simp [kd, HRel]
          | const => simp [kd, HRel]
          | global => simp [kd, HRel]
          | func g' =>
          simp only [ev, D.fn.injEq] at hf
          obtain ⟨rfl, rfl⟩ := hf
          cases hg : E.give g' with
          | true => simp [kd, hg, HRel]
          | false =>
            obtain rfl : bs = [] := h0.resolve_left (by rw [hg]; simp)
            simp only [kd, hg, Bool.false_eq_true, if_false, HRel]
            intro b hb
            refine (same_frz (if (flat d && h'.isEmpty) = true then [] else fsOf s [] (xs.map (ev E s) ++ [])) s.h b).trans' (Same.of_eq ?_)
            exact (mrg_out h' _ fun i y _ e => by simp only [ex, List.length_nil] at e; rw [if_neg (by omega)] at e; omega).symm
        · obtain ⟨a1, a2⟩ := hx e' ha
          unfold AX
          rw [ho]
          simp only [a1, a2]
          exact .inl ⟨bs, d, h', h0, h1, h2, hk⟩
      · refine .inl ⟨d, s.h, s.nx, HRel.refl _ _ _, h5, fun e' K' ha hk => ?_⟩
        obtain ⟨a1, a2⟩ := hx e' ha
        unfold AX
        rw [ho]
        simp only [a1, a2]
        exact .inr ⟨bs, d, h1, h2, h3, h4, hk⟩
    · exact h.elim
  · refine simple fun K s' => ?_
    unfold AX
    split
    · rename_i f xs ts ho
      exact (hc ⟨_, _, _, ho⟩).elim
    · rfl

/-- What an operation looks at, its guard too. -/
def AgreeT (E : Ctx) (ops : Array Oper) (o : Oper) (s : St) (e' : Nat → D) : Prop :=
  Agree E o.op s e' ∧ ∀ g want t, o.guard = some (g, want) → (ops[g]?).bind (·.dst) = some t → s.e t = e' t
theorem AT_det {ops : Array Oper} {o : Oper} {K : St → Prop} (h : AT E ops o K s) : Det (AT E ops o) (AgreeT E ops o s) (kd E o.op) o.dst K s := by
  unfold AT at h
  split at h
  · rename_i hg
    have e : ∀ K s', AT E ops o K s' = AX E o K s' := fun K s' => by unfold AT; rw [hg]
    rcases AX_det h with ⟨d, h1, nx, h2, h3, h4⟩ | ⟨p, h1, h2, h3⟩
    · exact .inl ⟨d, h1, nx, h2, h3, fun e' K' ha hk => by rw [e]; exact h4 e' K' ha.1 hk⟩
    · exact .inr ⟨p, h1, h2, fun e' K' ha hk => by rw [e]; exact h3 e' K' ha.1 hk⟩
  · rename_i g want hg
    split at h
    · rename_i t ht
      have e : ∀ K s', AT E ops o K s' = gd (s'.e t) want (AX E o K s') (K (s'.put o.dst (.tup []))) := fun K s' => by unfold AT; rw [hg]; simp only [ht]
      unfold gd at h
      split at h
      · rename_i b hb
        by_cases hw : b = want
        · have hgd : ∀ (e' : Nat → D) K', e' t = .bool b → AX E o K' ⟨e', s.h, s.nx⟩ → gd (e' t) want (AX E o K' ⟨e', s.h, s.nx⟩) (K' ((⟨e', s.h, s.nx⟩ : St).put o.dst (.tup []))) := fun e' K' he hx => by
            rw [he]; exact ⟨fun _ => hx, fun hn => (hn hw).elim⟩
          rcases AX_det (h.1 hw) with ⟨d, h1, nx, h2, h3, h4⟩ | ⟨p, h1, h2, h3⟩
          · exact .inl ⟨d, h1, nx, h2, h3, fun e' K' ha hk => by rw [e]; exact hgd e' K' ((ha.2 g want t hg ht).symm.trans hb) (h4 e' K' ha.1 hk)⟩
          · exact .inr ⟨p, h1, h2, fun e' K' ha hk => by rw [e]; exact hgd e' K' ((ha.2 g want t hg ht).symm.trans hb) (h3 e' K' ha.1 hk)⟩
        · refine .inl ⟨.tup [], s.h, s.nx, HRel.refl _ _ _, h.2 hw, fun e' K' ha hk => ?_⟩
          rw [e]
          show gd (e' t) want _ _
          rw [← ha.2 g want t hg ht, hb]
          exact ⟨fun hn => (hw hn).elim, fun _ => hk⟩
      · rename_i ds hb
        refine .inl ⟨.tup [], s.h, s.nx, HRel.refl _ _ _, h, fun e' K' ha hk => ?_⟩
        rw [e]
        show gd (e' t) want _ _
        rw [← ha.2 g want t hg ht, hb]
        exact hk
      · exact h.elim
    · exact h.elim

/-- What only reckons or reads. -/
def isP (E : Ctx) (op : Op) : Bool := (kd E op == .pure) && match op with
  | .binOp .eql t _ _ _ => match (E.tt t).k with
    | .slc _ => false
    | _ => true
  | _ => true
def pvG (E : Ctx) (ops : Array Oper) (o : Oper) (s : St) : Option D := match o.guard with
  | none => pv E s o.op
  | some (g, want) => match (ops[g]?).bind (·.dst) with
    | some t => match s.e t with
      | .bool b => if b = want then pv E s o.op else some (.tup [])
      | .tup _ => some (.tup [])
      | _ => none
    | none => none
theorem ef_pure {op : Op} (hp : isP E op = true) (K : D → St → Prop) : ¬ ef E s op K := by
  intro h
  cases op <;> try exact h
  case box => simp [isP, kd] at hp
  case alloc => simp [isP, kd] at hp
  case store => simp [isP, kd] at hp
  case makeSlice => simp [isP, kd] at hp
  case buildSlice => simp [isP, kd] at hp
  case convert src t x =>
    simp only [ef] at h
    split at h
    · rename_i e l hs ht hx
      simp [isP, kd, ht] at hp
    · exact h
  case binOp op t x y yt =>
    cases op <;> try exact h
    simp only [ef] at h
    split at h
    · rename_i e hk hx hy
      simp [isP, kd, hk] at hp
    · rename_i hk hx hy
      simp [isP, kd, hk] at hp
    · exact h
  case call c =>
    have h' := h
    unfold ef at h'
    split at h' <;> first | (rename_i e; cases e) | exact h'.elim
    simp [isP, kd] at hp
theorem AX_pure {o : Oper} (hp : isP E o.op = true) (K : St → Prop) : AX E o K s ↔ ∃ d, pv E s o.op = some d ∧ K (s.put o.dst d) := by
  have hc : ∀ f xs ts, o.op ≠ .call { callee := .value f, args := ⟨xs⟩, argTypes := ts } := fun f xs ts e => by
    rw [e] at hp
    cases f with
    | func g => cases hg : E.give g <;> simp [isP, kd, hg] at hp
    | tmp => simp [isP, kd] at hp
    | const => simp [isP, kd] at hp
    | global => simp [isP, kd] at hp
  have : AX E o K s = ork (pv E s o.op) (KP K s o.dst) (ef E s o.op (KT K o.dst)) := by
    unfold AX
    split
    · rename_i f xs ts ho
      exact (hc _ _ _ ho).elim
    · rfl
  rw [this]
  unfold ork
  cases hpv : pv E s o.op with
  | none => simp [ef_pure hp]
  | some d => simp [KP]
theorem AT_pure {ops : Array Oper} {o : Oper} (hp : isP E o.op = true) (K : St → Prop) : AT E ops o K s ↔ ∃ d, pvG E ops o s = some d ∧ K (s.put o.dst d) := by
  unfold AT pvG
  cases hg : o.guard with
  | none => exact AX_pure hp K
  | some q =>
    obtain ⟨g, want⟩ := q
    simp only
    cases ht : (ops[g]?).bind (·.dst) with
    | none => simp
    | some t =>
      simp only
      cases he : s.e t <;> simp only [gd, reduceCtorEq, false_and, exists_false]
      case bool b =>
        by_cases hw : b = want
        · simp [hw, AX_pure hp K]
        · simp [hw]
      case tup ds => simp
end

end Go.Proofs.YtmcinfbckdiaoaaGreatDoor.Lv
