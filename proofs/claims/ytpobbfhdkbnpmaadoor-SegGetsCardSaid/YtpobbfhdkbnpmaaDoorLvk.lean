/- The abstract machine: bytes of a string, a slice against nil, values that are built; all effects together. -/
import Derived.Test.YtpobbfhdkbnpmaaDoorLvj
import Derived.Lib.ConvBytes
set_option linter.unusedVariables false
set_option linter.unusedSimpArgs false
namespace Go.Proofs.YtpobbfhdkbnpmaaDoor.Lv
open Go Go.RowKit

section
variable {E : Ctx} {B : Base} {s : St} {φ : Ph} {S : Nat → Prop} {a : Act} {w : World}

theorem conv_bytes_sound (hr : Rel B s φ S a w) (hev : ∀ x, RepV s.h φ S w (ev E s x) (a.eval x)) {o : Oper} {src t : Nat} {x : Operand} (ho : o.op = .convert src t x) {K : D → St → Prop} (h : ef E s o.op K) : Goes E B s S a w o K := by
  rw [ho] at h
  simp only [ef] at h
  have hx := hev x
  split at h
  · rename_i e l hs ht ex
    obtain ⟨he, hl, hK⟩ := h
    rw [ex] at hx
    simp only [RepV, Rep0] at hx
    have hsl : (⟨l.toArray⟩ : ByteArray).size = l.length := by simp [ByteArray.size]
    have hge := grownCap_ge w l.length 0 e
    have hle := grownCap_le_maxLen w l.length 0 e (by simp only [maxLen]; omega)
    have hrun := Lib.run_convert_string_bytes (P := E.P) w src t e ⟨l.toArray⟩ (und_str hs) (und_slc ht) (und_int he)
    have hcells : Lib.bytesCells w e ⟨l.toArray⟩ = ⟨(l.map fun b => Value.int .u8 (b.toNat : Int)) ++ List.replicate (grownCap w l.length 0 e - l.length) (.int .u8 0)⟩ := by
      apply Array.ext'
      simp [Lib.bytesCells, hsl]
    have hnew := Lib.bytesWorld_at_new w e ⟨l.toArray⟩
    rw [hcells] at hnew
    obtain ⟨φ', r1, r2⟩ := row_new' hr (w1 := Lib.bytesWorld w e ⟨l.toArray⟩) (tot := grownCap w l.length 0 e) (n := l.length) (sz := 1) (ag := false) (f := fun i => .int .u8 ((l.getD i 0).toNat : Int))
      (fun k hk => Lib.bytesWorld_at_old w e _ k hk) hnew (by rw [Lib.bytesWorld_size]; omega) (by first | rfl | (simp [Lib.bytesWorld, World.freeze]; done) | (simp [Lib.bytesWorld, World.freeze]; rfl)) (by first | rfl | (simp [Lib.bytesWorld, World.freeze]; done) | (simp [Lib.bytesWorld, World.freeze]; rfl)) (by first | rfl | (simp [Lib.bytesWorld, World.freeze]; done) | (simp [Lib.bytesWorld, World.freeze]; rfl))
      (by simp; omega) (by simp only [maxLen] at hle; omega) hge (by simp; omega) (by
      intro y hy
      simp only [List.mem_append, List.mem_map, List.mem_replicate] at hy
      rcases hy with ⟨b, _, rfl⟩ | ⟨_, rfl⟩ <;> rfl) (fun i hi => by
      refine ⟨.int .u8 (l[i].toNat : Int), ?_, by simp [Rep0, List.getD, hi]⟩
      simp only [Cells, Bool.false_eq_true, if_false, Nat.mul_one]
      rw [List.drop_append_of_le_length (by simp; omega), List.take_append_of_le_length (by simp; omega), List.drop_eq_getElem_cons (by simpa using hi)]
      simp)
    refine ⟨_, _, φ', .value _, _, _, ?_, .inl rfl, hK, rfl, r1, r2⟩
    rw [hsl] at hrun
    simp [execOp, ho, hx, hrun]
  · exact h.elim

theorem eqIn_sl {P : Program} (d : Nat) {t e : Nat} (a : Option Addr) (n c : Nat) (hu : P.underlying t = some (.slice e)) : (Op.equalIn (d + 1) t (.slice a n c) (.slice none 0 0)).run P w = .ok a.isNone w := by
  unfold Op.equalIn
  cases a <;> simp [run_und hu]
theorem eql_sound (hr : Rel B s φ S a w) (hev : ∀ x, RepV s.h φ S w (ev E s x) (a.eval x)) {o : Oper} {t yt : Nat} {x y : Operand} (ho : o.op = .binOp .eql t x y yt) {K : D → St → Prop} (h : ef E s o.op K) : Goes E B s S a w o K := by
  rw [ho] at h
  simp only [ef] at h
  have hx := hev x
  have hy := hev y
  have run_of : ∀ {ad : Option Addr} {n c : Nat}, a.eval x = .slice ad n c → a.eval y = .slice none 0 0 → (∃ e, (E.tt t).k = .slc e) → (execOp a.eval o).run E.P w = .ok (.value (.bool ad.isNone)) w := by
    rintro ad n c h1 h2 ⟨e, hk⟩
    simp [execOp, ho, h1, h2, eqGuard, binOp, run_eq (eqIn_sl 9999 ad n c (und_slc hk))]
  split at h
  · rename_i e hk e1 e2
    rw [e1] at hx
    rw [e2] at hy
    simp only [RepV, Rep0] at hx hy
    exact ⟨_, _, φ, .value _, _, _, run_of hx hy ⟨e, hk⟩, .inl rfl, h, rfl, hr, by simp [RepV, Rep0]⟩
  · rename_i e ag sz n f hk e1 e2
    rw [e1] at hx
    rw [e2] at hy
    simp only [RepV, Rep0] at hx hy
    obtain ⟨ad, cap, hv, _, _, hpos⟩ := hx
    refine ⟨_, _, φ, .value _, _, _, run_of hv hy ⟨e, hk⟩, .inl rfl, h ad.isNone fun hn => ?_, rfl, hr, by simp [RepV, Rep0]⟩
    rcases Nat.eq_zero_or_pos n with h0 | h0
    · exact h0
    · obtain ⟨b, o, rfl, _⟩ := hpos h0
      cases hn
  · exact h.elim

/-- ALL EFFECTS. -/
theorem ef_sound (hr : Rel B s φ S a w) (hev : ∀ x, RepV s.h φ S w (ev E s x) (a.eval x)) {o : Oper} {K : D → St → Prop} (h : ef E s o.op K) : Goes E B s S a w o K := by
  cases hop : o.op
  case box t x => exact box_sound hr hev hop h
  case alloc t => exact alloc_sound hr hop h
  case store t ad x => exact store_sound hr hev hop h
  case makeSlice t l c => exact make_sound hr hev hop h
  case buildSlice t n ps => obtain ⟨ps⟩ := ps; exact bslice_sound hr hev hop h
  case convert src t x => exact conv_bytes_sound hr hev hop h
  case binOp op t x y yt =>
    cases op
    case eql => exact eql_sound hr hev hop h
    all_goals (rw [hop] at h; exact (show False from h).elim)
  case call c =>
    have h' := h
    rw [hop] at h'
    unfold ef at h'
    split at h' <;> first | (rename_i e; cases e) | exact h'.elim
    exact append_sound hr hev hop h
  all_goals (rw [hop] at h; exact (show False from h).elim)

/-- What is built. -/
theorem over_rep {H : Hp} : ∀ (ps : List (Nat × D)) (vs : List (Nat × Value)) (places : List (Nat × Nat)) (q : List (Nat × List D)) (z : List D) (cs : List Value),
    ps.map (·.1) = vs.map (·.1) → RepVs H φ S w (ps.map (·.2)) (vs.map (·.2)) → fits E H ps places = some q → RepVs H φ S w z cs → (q.all fun x => decide (x.1 + x.2.length ≤ z.length)) = true →
    ∃ cs', Instr.fill (fun i => (places.map fun p => (p.1, (E.tt p.2).sz))[i]?) ⟨cs⟩ vs = some ⟨cs'⟩ ∧ RepVs H φ S w (over z q) cs'
  | [], vs, places, q, z, cs, h1, h2, h3, h4, h5 => by
    cases vs with
    | nil => simp only [fits, Option.some.injEq] at h3; subst h3; exact ⟨cs, rfl, h4⟩
    | cons v vs => simp at h1
  | (i, d) :: ps, vs, places, q, z, cs, h1, h2, h3, h4, h5 => by
    cases vs with
    | nil => simp at h1
    | cons v vs =>
      obtain ⟨i', v⟩ := v
      simp only [List.map_cons, List.cons.injEq, RepVs] at h1 h2
      obtain ⟨rfl, h1⟩ := h1
      obtain ⟨v', vs', ⟨rfl, rfl⟩, hd, h2⟩ := h2
      simp only [fits] at h3
      split at h3
      · cases h3
      · rename_i off t hpl
        split at h3
        · cases h3
        · rename_i us hus
          split at h3
          · rename_i hsz
            obtain ⟨hsz, hone⟩ := hsz
            cases hf : fits E H ps places with
            | none => rw [hf] at h3; cases h3
            | some q' =>
              rw [hf] at h3
              simp only [Option.map_some, Option.some.injEq] at h3
              subst h3
              simp only [List.all_cons, Bool.and_eq_true, decide_eq_true_eq] at h5
              obtain ⟨ws, hw1, hw2⟩ : ∃ ws, v.cells = ⟨ws⟩ ∧ RepVs H φ S w us ws := by
                unfold cellsOf at hus
                cases hag : (E.tt t).ag with
                | true =>
                  rw [hag] at hus
                  simp only [if_true] at hus
                  cases d <;> simp only [asAgg, Option.some.injEq, reduceCtorEq] at hus
                  subst hus
                  simp only [RepV] at hd
                  obtain ⟨ws, rfl, hd⟩ := hd
                  exact ⟨ws, rfl, hd⟩
                | false =>
                  rw [hag] at hus
                  simp only [Bool.false_eq_true, if_false, Option.some.injEq] at hus
                  subst hus
                  refine ⟨[v], ?_, v, [], rfl, hd, rfl⟩
                  have h1 : one H d = true := by simpa [hag] using hone
                  have := one_cell hd h1
                  cases v <;> first | rfl | simp [Value.oneCell'] at this
              have hlw : ws.length = (E.tt t).sz := by rw [hw2.length]; exact hsz
              have hle : off + ws.length ≤ cs.length := by rw [hlw, ← hsz, h4.length]; exact h5.1
              have hz : (z.take off ++ us ++ z.drop (off + us.length)).length = z.length := by simp; omega
              obtain ⟨cs', g1, g2⟩ := over_rep ps vs places q' (z.take off ++ us ++ z.drop (off + us.length)) (cs.take off ++ ws ++ cs.drop (off + ws.length)) h1 h2 hf
                (by rw [show ws.length = us.length by rw [hw2.length]]; exact ((h4.take off).append hw2).append (h4.drop _)) (by rw [hz]; exact h5.2)
              refine ⟨cs', ?_, g2⟩
              rw [fill_cons _ (off := off) (sz := (E.tt t).sz) (by simp [hpl]) hw1 hlw hle]
              exact g1
          · cases h3
theorem nbad_iff {k : TK} : nbad k = true ↔ k ≠ .bad := by cases k <;> simp [nbad]
theorem fill_mono {p p' : Nat → Option (Nat × Nat)} (h : ∀ i x, p i = some x → p' i = some x) : ∀ (l : List (Nat × Value)) (cs r : Array Value), Instr.fill p cs l = some r → Instr.fill p' cs l = some r
  | [], cs, r, h1 => h1
  | (i, v) :: l, cs, r, h1 => by
    simp only [Instr.fill] at h1 ⊢
    cases hp : p i with
    | none => rw [hp] at h1; cases h1
    | some x =>
      rw [h i x hp]
      rw [hp] at h1
      obtain ⟨off, sz⟩ := x
      simp only at h1 ⊢
      split at h1
      · cases h1
      · rename_i hc
        rw [if_neg hc]
        exact fill_mono h l _ r h1
theorem places_run {E : Ctx} : ∀ (F : List Field), (F.all fun f => nbad (E.tt f.type).k) = true → F.mapM (fun f => (E.P.info? f.type).map fun i => (f.offset, i.size)) = some (F.map fun f => (f.offset, (E.tt f.type).sz))
  | [], _ => rfl
  | f :: F, h => by
    simp only [List.all_cons, Bool.and_eq_true] at h
    obtain ⟨i, d, h1, _, h3⟩ := ti_of (nbad_iff.1 h.1)
    simp only [List.mapM_cons, Option.bind_eq_bind, Option.pure_def, h1, Option.map_some, Option.bind_some, places_run F h.2, List.map_cons]
    rw [h3]

/-- ALL THE OPERATIONS THAT ONLY RECKON OR READ. -/
theorem pv_sound (hp : HpAt s.h φ S w) (hev : ∀ x, RepV s.h φ S w (ev E s x) (a.eval x)) {o : Oper} {d : D} (h : pv E s o.op = some d) :
    ∃ v, (execOp a.eval o).run E.P w = .ok (.value v) w ∧ RepV s.h φ S w d v := by
  by_cases hb : ∃ t ps, o.op = .build t ps
  · obtain ⟨t, ⟨ps⟩, ho⟩ := hb
    rw [ho] at h
    have maps : ∀ ps : List (Nat × Operand), (ps.map fun p => (p.1, ev E s p.2)).map (·.1) = (ps.map fun p => (p.1, a.eval p.2)).map (·.1) ∧ RepVs s.h φ S w ((ps.map fun p => (p.1, ev E s p.2)).map (·.2)) ((ps.map fun p => (p.1, a.eval p.2)).map (·.2)) := fun ps => by
      refine ⟨by simp [List.map_map, Function.comp_def], ?_⟩
      simp only [List.map_map, Function.comp_def]
      induction ps with
      | nil => rfl
      | cons p ps ih => exact ⟨_, _, rfl, hev p.2, ih⟩
    obtain ⟨m1, m2⟩ := maps ps
    have hzero : ∀ z, (E.tt t).zero = .agg z → (E.tt t).k ≠ .bad → ∃ zv cs i, E.P.info? t = some i ∧ i.zero = some zv ∧ zv.cells = ⟨cs⟩ ∧ RepVs s.h φ S w z cs := fun z hz hk => by
      obtain ⟨i, d, h1, h2, h3⟩ := ti_of hk
      rw [h3] at hz
      simp only at hz
      cases hzz : i.zero with
      | none => rw [hzz] at hz; cases hz
      | some zv =>
        rw [hzz] at hz
        simp only [Option.map_some, Option.getD_some] at hz
        have := Rep0.toV (H := s.h) (φ := φ) _ _ (ofVal_rep (S := S) (w := w) zv)
        rw [hz] at this
        simp only [RepV] at this
        obtain ⟨cs, rfl, this⟩ := this
        exact ⟨_, cs, i, h1, hzz, rfl, this⟩
    simp only [pv] at h
    split at h
    · rename_i fs z hk hz
      split at h
      · cases h
      rename_i hnb
      obtain ⟨q, hq, h⟩ := bind_of h
      split at h
      · rename_i hall
        simp only [Option.some.injEq] at h
        subst h
        obtain ⟨zv, cs, i, hi, hzz, hcs, hrep⟩ := hzero z hz (by rw [hk]; simp)
        obtain ⟨F, hu, rfl⟩ := und_strct hk
        obtain ⟨cs', g1, g2⟩ := over_rep _ _ _ _ _ _ m1 m2 hq hrep hall
        refine ⟨.agg ⟨cs'⟩, ?_, by simp only [RepV]; exact ⟨_, rfl, g2⟩⟩
        have hb : E.P.built t (ps.map fun p => (p.1, a.eval p.2)) = some ⟨cs'⟩ := by
          unfold Program.built
          simp only [hi, hu, hzz, places_run F.toList (by simpa [List.all_map, Function.comp_def] using hnb), hcs]
          rw [List.map_map] at g1
          simpa [Function.comp_def] using g1
        have := run_build (P := E.P) w t ⟨ps.map fun p => (p.1, a.eval p.2)⟩ ⟨cs'⟩ hb
        simp [execOp, ho, this]
      · cases h
    · rename_i n e z hk hz
      split at h
      · cases h
      rename_i hnb
      obtain ⟨q, hq, h⟩ := bind_of h
      split at h
      · rename_i hall
        simp only [Option.some.injEq] at h
        subst h
        obtain ⟨zv, cs, i, hi, hzz, hcs, hrep⟩ := hzero z hz (by rw [hk]; simp)
        obtain ⟨cs', g1, g2⟩ := over_rep _ _ _ _ _ _ m1 m2 hq hrep hall
        refine ⟨.agg ⟨cs'⟩, ?_, by simp only [RepV]; exact ⟨_, rfl, g2⟩⟩
        obtain ⟨ie, de, e1, e2, e3⟩ := ti_of (nbad_iff.1 (by simpa using hnb))
        have hb : E.P.built t (ps.map fun p => (p.1, a.eval p.2)) = some ⟨cs'⟩ := by
          unfold Program.built
          simp only [hi, und_arr hk, hzz, e1, hcs]
          refine fill_mono (fun i x hx => ?_) _ _ _ g1
          have hsz : (E.tt e).sz = ie.size := by rw [e3]
          simp only [List.map_map, List.getElem?_map, Option.map_eq_some_iff, Function.comp_def] at hx
          obtain ⟨j, hj, rfl⟩ := hx
          obtain ⟨_, hj⟩ := List.getElem?_eq_some_iff.1 hj
          simp only [List.getElem_range] at hj
          subst hj
          rw [hsz]
        have := run_build (P := E.P) w t ⟨ps.map fun p => (p.1, a.eval p.2)⟩ ⟨cs'⟩ hb
        simp [execOp, ho, this]
      · cases h
    · cases h
  · exact pv_sound0 hp hev h fun t ps e => hb ⟨t, ps, e⟩
end

end Go.Proofs.YtpobbfhdkbnpmaaDoor.Lv
