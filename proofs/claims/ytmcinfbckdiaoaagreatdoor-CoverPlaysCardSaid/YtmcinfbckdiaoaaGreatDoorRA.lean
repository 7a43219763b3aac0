/- What arguments read as, as values of the abstract machine. -/
import Derived.Test.YtmcinfbckdiaoaaGreatDoorEa
import Derived.Test.YtmcinfbckdiaoaaGreatDoorRows
import Derived.ProofKit
import Derived.OpenShut
import Derived.ChangeOld
set_option linter.unusedVariables false
set_option linter.unusedSimpArgs false
set_option maxRecDepth 100000
namespace Go.Proofs.YtmcinfbckdiaoaaGreatDoor.Lv
open Go Go.RowKit

/-- What a type's values are made of. -/
inductive Sh where
  | int (k : IntKind) | bool | str | slc (e : Sh) | st (fs : Sh) | nil | cons (a b : Sh)
def Sh.T : Sh → Type
  | .int _ => Int
  | .bool => Bool
  | .str => List UInt8
  | .slc e => Option (List e.T)
  | .st fs => fs.T
  | .nil => Unit
  | .cons a b => a.T × b.T
def Sh.ag : Sh → Bool
  | .st _ => true
  | _ => false
def Sh.size : Sh → Nat
  | .st fs => fs.size
  | .nil => 0
  | .cons a b => a.size + b.size
  | _ => 1
def oneOf (ag : Bool) (ds : List D) : D := if ag then .agg ds else ds.headD .unk
def Sh.ds : (s : Sh) → s.T → List D
  | .int k, n => [.int k n]
  | .bool, b => [.bool b]
  | .str, s => [.str s]
  | .slc e, x => match (x : Option (List e.T)) with
    | none => [.nils]
    | some l => [.ro e.ag e.size l.length fun i => match l[i]? with
      | some y => oneOf e.ag (e.ds y)
      | none => .unk]
  | .st fs, x => fs.ds x
  | .nil, _ => []
  | .cons a b, x => a.ds x.1 ++ b.ds x.2
def Sh.d (s : Sh) (x : s.T) : D := oneOf s.ag (s.ds x)
def Sh.wf : (s : Sh) → s.T → Prop
  | .int k, n => (Lit.int k n).wf = true
  | .bool, _ => True
  | .str, s => s.length ≤ maxLen
  | .slc e, x => match (x : Option (List e.T)) with
    | none => True
    | some l => l.length ≤ maxLen ∧ ∀ y, y ∈ l → e.wf y
  | .st fs, x => fs.wf x
  | .nil, _ => True
  | .cons a b, x => a.wf x.1 ∧ b.wf x.2
def Sh.bulk : (s : Sh) → s.T → Nat
  | .int _, _ => 1
  | .bool, _ => 1
  | .str, s => s.length + 1
  | .slc e, x => match (x : Option (List e.T)) with
    | none => 1
    | some l => (l.map e.bulk).sum + 1
  | .st fs, x => fs.bulk x + 1
  | .nil, _ => 0
  | .cons a b, x => a.bulk x.1 + b.bulk x.2
mutual
/-- Is it the type's? -/
def Sh.fit (tt : Nat → TI) : Sh → Nat → Bool
  | .int k, t => (tt t).k == .int k
  | .bool, t => (tt t).k == .bool
  | .str, t => (tt t).k == .string
  | .slc e, t => match (tt t).k with
    | .slc u => e.fit tt u && (tt u).ag == e.ag && (tt u).sz == e.size && e.size != 0
    | _ => false
  | .st fs, t => match (tt t).k with
    | .strct l => fs.fitF tt l 0 && (tt t).sz == fs.size && fs.size != 0
    | .arr n u => fs.fitF tt ((List.range n).map fun i => (i * (tt u).sz, u)) 0 && (tt t).sz == fs.size && fs.size != 0
    | _ => false
  | .nil, _ => false
  | .cons .., _ => false
def Sh.fitF (tt : Nat → TI) : Sh → List (Nat × Nat) → Nat → Bool
  | .nil, [], _ => true
  | .cons a b, (o, u) :: r, off => o == off && a.fit tt u && (tt u).sz == a.size && a.size != 0 && b.fitF tt r (off + a.size)
  | _, _, _ => false
end

theorem Rep0s.app {S : Nat → Prop} {w : World} : ∀ {ds es : List D} {vs us : List Value}, Rep0s S w ds vs → Rep0s S w es us → Rep0s S w (ds ++ es) (vs ++ us)
  | [], es, vs, us, h, h' => by simp only [Rep0s] at h; subst h; exact h'
  | d :: ds, es, vs, us, h, h' => by
    simp only [Rep0s] at h
    obtain ⟨v, vs', rfl, h1, h2⟩ := h
    exact ⟨v, vs' ++ us, rfl, h1, h2.app h'⟩
/-- Cells of one value each. -/
def plainD : D → Bool
  | .int .. | .bool _ | .str _ | .nils | .ro .. => true
  | _ => false
theorem Sh.ds_plain : ∀ (s : Sh) (x : s.T), ∀ d ∈ s.ds x, plainD d = true
  | .int k, n, d, h => by simp only [Sh.ds, List.mem_singleton] at h; subst h; rfl
  | .bool, n, d, h => by simp only [Sh.ds, List.mem_singleton] at h; subst h; rfl
  | .str, n, d, h => by simp only [Sh.ds, List.mem_singleton] at h; subst h; rfl
  | .slc e, x, d, h => by
    simp only [Sh.ds] at h
    split at h <;> (simp only [List.mem_singleton] at h; subst h; rfl)
  | .st fs, x, d, h => Sh.ds_plain fs x d h
  | .nil, _, d, h => by cases h
  | .cons a b, x, d, h => by
    rcases List.mem_append.1 h with h | h
    · exact Sh.ds_plain a _ d h
    · exact Sh.ds_plain b _ d h
theorem plain_one {S : Nat → Prop} {w : World} {d : D} {v : Value} (h : plainD d = true) (hr : Rep0 S w d v) : v.oneCell' = true := by
  cases d <;> simp only [plainD, Bool.false_eq_true] at h
  case int => simp only [Rep0] at hr; subst hr; rfl
  case bool => simp only [Rep0] at hr; subst hr; rfl
  case str => simp only [Rep0] at hr; subst hr; rfl
  case nils => simp only [Rep0] at hr; subst hr; rfl
  case ro => simp only [Rep0] at hr; obtain ⟨a, cap, rfl, _⟩ := hr; rfl
theorem plains_one {S : Nat → Prop} {w : World} : ∀ {ds : List D} {vs : List Value}, (∀ d ∈ ds, plainD d = true) → Rep0s S w ds vs → ∀ v ∈ vs, v.oneCell' = true
  | [], vs, h, hr, v, hv => by simp only [Rep0s] at hr; subst hr; cases hv
  | d :: ds, vs, h, hr, v, hv => by
    simp only [Rep0s] at hr
    obtain ⟨y, vs', rfl, h1, h2⟩ := hr
    rcases List.mem_cons.1 hv with rfl | hv
    · exact plain_one (h d (by simp)) h1
    · exact plains_one (fun d hd => h d (List.mem_cons_of_mem _ hd)) h2 v hv
theorem Sh.ds_length : ∀ (s : Sh) (x : s.T), (s.ds x).length = s.size
  | .int k, n => rfl
  | .bool, n => rfl
  | .str, n => rfl
  | .slc e, x => by simp only [Sh.ds]; split <;> rfl
  | .st fs, x => Sh.ds_length fs x
  | .nil, _ => rfl
  | .cons a b, x => by simp only [Sh.ds, List.length_append, Sh.ds_length a, Sh.ds_length b, Sh.size]
/-- A whole as one value. -/
theorem one_rep {S : Nat → Prop} {w : World} {ag : Bool} {ds : List D} {vs : List Value} {v : Value} (hr : Rep0s S w ds vs) (hag : ag = false → ds.length = 1) (hc : Cells ag v vs) : Rep0 S w (oneOf ag ds) v := by
  unfold oneOf
  cases ag with
  | true =>
    simp only [Cells, if_true] at hc ⊢
    subst hc
    simp only [Rep0]
    exact ⟨vs, rfl, hr⟩
  | false =>
    simp only [Cells, Bool.false_eq_true, if_false] at hc ⊢
    match ds, hag rfl with
    | [d], _ =>
      simp only [Rep0s] at hr
      obtain ⟨v', vs', e, h1, rfl⟩ := hr
      rw [hc] at e
      simp only [List.cons.injEq, and_true] at e
      subst e
      exact h1
theorem Sh.size_one {t : Nat} : ∀ (s : Sh), s.ag = false → s.fit E.tt t = true → s.size = 1
  | .int _, _, _ => rfl
  | .bool, _, _ => rfl
  | .str, _, _ => rfl
  | .slc _, _, _ => rfl
  | .st _, h, _ => by cases h
  | .nil, _, h => by simp [Sh.fit] at h
  | .cons _ _, _, h => by simp [Sh.fit] at h
theorem cellsOf_sz {t : Nat} (h : (E.tt t).sz ≠ 0) : E.P.cellsOf t = (E.tt t).sz := by
  obtain ⟨i, d, h1, _, h3, _⟩ := sz_of h
  simp [Program.cellsOf, h1, h3]
theorem und_kind {t : Nat} {d : TypeDesc} (h : (E.tt t).k = tkOf d) (hd : tkOf d ≠ .bad) : ∃ d', E.P.underlying t = some d' ∧ tkOf d' = tkOf d := by
  obtain ⟨i, d', h1, h2, h3⟩ := ti_of (E := E) (t := t) (by rw [h]; exact hd)
  rw [h3] at h
  exact ⟨d', h2, h⟩
theorem cells_at {W : World} {a : Addr} {n : Nat} {vs : List Value} (h : W.cells? 0 a n = some vs) (hn : n ≠ 0) : ∃ b o, a = ⟨b, o, none⟩ ∧ b < W.heap.size ∧ vs.length = n ∧ ∀ j v, vs[j]? = some v → W.cell? ⟨b, o + j, none⟩ = some v := by
  unfold World.cells? at h
  rw [if_pos (Nat.zero_le _)] at h
  have hl : vs.length = n ∧ ∀ j v, vs[j]? = some v → W.cell? (a.add j) = some v := by
    have key : ∀ (l : List Nat) (vs : List Value), l.mapM (fun i => W.cell? (a.add i)) = some vs → vs.length = l.length ∧ ∀ (j : Nat) v, vs[j]? = some v → ∃ i, l[j]? = some i ∧ W.cell? (a.add i) = some v := by
      intro l
      induction l with
      | nil => intro vs h; simp at h; subst h; simp
      | cons i l ih =>
        intro vs h
        rw [List.mapM_cons] at h
        simp only [bind, Option.bind_eq_some_iff, pure, Option.some.injEq] at h
        obtain ⟨v, h1, vs', h2, rfl⟩ := h
        obtain ⟨g1, g2⟩ := ih vs' h2
        refine ⟨by simp [g1], fun j y hj => ?_⟩
        cases j with
        | zero => simp at hj; subst hj; exact ⟨i, rfl, h1⟩
        | succ j => simpa using g2 j y (by simpa using hj)
    obtain ⟨g1, g2⟩ := key _ _ h
    refine ⟨by simpa using g1, fun j v hj => ?_⟩
    obtain ⟨i, hi, hv⟩ := g2 j v hj
    have : i = j := by
      have := List.getElem?_eq_some_iff.1 hi
      obtain ⟨h1, h2⟩ := this
      simpa using h2.symm
    subst this
    exact hv
  obtain ⟨hl, hc⟩ := hl
  have h0 : 0 < vs.length := by omega
  have hc0 := hc 0 vs[0] (by simp [h0])
  obtain ⟨b, o, sp⟩ := a
  have hsp : sp = none := by simpa [Addr.add] using World.cell?_spot hc0
  subst hsp
  refine ⟨b, o, rfl, ?_, hl, fun j v hj => by have := hc j v hj; rwa [add_at] at this⟩
  rw [add_at] at hc0
  unfold World.cell? at hc0
  cases hb : W.heap[b]? with
  | none => rw [hb] at hc0; cases hc0
  | some ob => exact (Array.getElem?_eq_some_iff.1 hb).1
/-- How the reader takes a slice. -/
theorem trod_slice {H : Type} {enc : TypeId × Value → H} {P : Program} {W : World} {t e : Nat} (hu : P.underlying t = some (.slice e)) {fuel : Nat} {cs : List Value} {x : DataW H × List MemPlace}
    (h : DataW.trod enc P W 0 (fun _ => true) true fuel t cs = some x) : (cs = [.slice none 0 0] ∧ x.1 = .nil) ∨ ∃ a len cap n, ∃ (xs rest : List (DataW H × List MemPlace)), cs = [.slice (some a) len cap] ∧ len ≤ cap ∧ cap ≤ maxLen ∧ xs.length = len ∧ x.1 = .slice (xs.map (·.1)) (rest.map (·.1)) ∧
      ∀ i y, xs[i]? = some y → ∃ vs, W.cells? 0 (a.add (i * P.cellsOf e)) (P.cellsOf e) = some vs ∧ DataW.trod enc P W 0 (fun _ => true) true n e vs = some y := by
  cases fuel with
  | zero => simp [DataW.trod] at h
  | succ n =>
    unfold DataW.trod at h
    rw [hu] at h
    split at h <;> rename_i h1 <;> simp only [Option.some.injEq, TypeDesc.slice.injEq, reduceCtorEq] at h1
    · cases h
      exact .inl ⟨rfl, rfl⟩
    · subst h1
      rename_i a len cap
      simp only at h
      split at h
      · rename_i hc
        simp only [Option.bind_eq_some_iff, Option.map_eq_some_iff] at h
        obtain ⟨xs, hx, rest, hr, rfl⟩ := h
        have key : ∀ (l : List Nat) (xs : List (DataW H × List MemPlace)), l.mapM (fun i => (W.cells? 0 (a.add (i * P.cellsOf e)) (P.cellsOf e)).bind (DataW.trod enc P W 0 (fun _ => true) true n e)) = some xs →
            xs.length = l.length ∧ ∀ (j : Nat) y, xs[j]? = some y → ∃ i, l[j]? = some i ∧ ∃ vs, W.cells? 0 (a.add (i * P.cellsOf e)) (P.cellsOf e) = some vs ∧ DataW.trod enc P W 0 (fun _ => true) true n e vs = some y := by
          intro l
          induction l with
          | nil => intro xs h; simp at h; subst h; simp
          | cons i l ih =>
            intro xs h
            rw [List.mapM_cons] at h
            simp only [bind, Option.bind_eq_some_iff, pure, Option.some.injEq] at h
            obtain ⟨v, ⟨vs, h1, h2⟩, xs', h3, rfl⟩ := h
            obtain ⟨g1, g2⟩ := ih xs' h3
            refine ⟨by simp [g1], fun j y hj => ?_⟩
            cases j with
            | zero => simp at hj; subst hj; exact ⟨i, rfl, vs, h1, h2⟩
            | succ j => simpa using g2 j y (by simpa using hj)
        obtain ⟨g1, g2⟩ := key _ _ hx
        refine .inr ⟨a, len, cap, n, xs, rest, rfl, hc.2.1, hc.2.2, by simpa using g1, rfl, fun i y hi => ?_⟩
        obtain ⟨i', h1, h2⟩ := g2 i y hi
        have : i' = i := by
          obtain ⟨_, h⟩ := List.getElem?_eq_some_iff.1 h1
          simpa using h.symm
        subst this
        exact h2
      · cases h
    all_goals cases h
theorem fitF_nz : ∀ (s : Sh) (l : List (Nat × Nat)) (off : Nat), s.fitF E.tt l off = true → ∀ o u, (o, u) ∈ l → (E.tt u).sz ≠ 0
  | .nil, [], _, _, o, u, h => by cases h
  | .cons a b, (o', u') :: r, off, hf, o, u, h => by
    simp only [Sh.fitF, Bool.and_eq_true, beq_iff_eq, bne_iff_ne] at hf
    rcases List.mem_cons.1 h with e | h
    · cases e; rw [hf.1.1.2]; exact hf.1.2
    · exact fitF_nz b r _ hf.2 o u h
  | .nil, _ :: _, off, hf, _, _, _ => by simp [Sh.fitF] at hf
  | .cons _ _, [], off, hf, _, _, _ => by simp [Sh.fitF] at hf
  | .int _, _, off, hf, _, _, _ => by simp [Sh.fitF] at hf
  | .bool, _, off, hf, _, _, _ => by simp [Sh.fitF] at hf
  | .str, _, off, hf, _, _, _ => by simp [Sh.fitF] at hf
  | .slc _, _, off, hf, _, _, _ => by simp [Sh.fitF] at hf
  | .st _, _, off, hf, _, _, _ => by simp [Sh.fitF] at hf
mutual
/-- WHAT IS READ, IS REPRESENTED. -/
theorem Sh.read {H : Type} {enc : TypeId × Value → H} {W : World} : ∀ (s : Sh) (t : Nat), s.fit E.tt t = true → ∀ (fuel : Nat) (cs : List Value) (x : DataW H × List MemPlace), DataW.trod enc E.P W 0 (fun _ => true) true fuel t cs = some x →
    ∃ y : s.T, s.wf y ∧ Rep0s (fun b => b < W.heap.size) W (s.ds y) cs ∧ s.bulk y ≤ Rows.uptoBulk x.1
  | .int k, t, hf, fuel, cs, x, h => by
    simp only [Sh.fit, beq_iff_eq] at hf
    obtain ⟨n, rfl, rfl, hw⟩ := DataW.trod_int (und_int hf) h
    exact ⟨n, hw, ⟨_, _, rfl, by simp [Rep0], rfl⟩, by simp [Sh.bulk, Rows.uptoBulk]⟩
  | .bool, t, hf, fuel, cs, x, h => by
    simp only [Sh.fit, beq_iff_eq] at hf
    obtain ⟨i, d, h1, h2, h3, _⟩ := kind_of hf (by simp)
    cases d <;> simp [tkOf] at h3
    obtain ⟨b, rfl, rfl⟩ := DataW.trod_bool h2 h
    exact ⟨b, trivial, ⟨_, _, rfl, by simp [Rep0], rfl⟩, by simp [Sh.bulk, Rows.uptoBulk]⟩
  | .str, t, hf, fuel, cs, x, h => by
    simp only [Sh.fit, beq_iff_eq] at hf
    obtain ⟨b, rfl, rfl, hb⟩ := DataW.trod_string (und_str hf) h
    exact ⟨b.data.toList, by simpa [Sh.wf] using hb, ⟨_, _, rfl, by simp [Rep0], rfl⟩, by simp [Sh.bulk, Rows.uptoBulk]⟩
  | .slc e, t, hf, fuel, cs, x, h => by
    simp only [Sh.fit] at hf
    split at hf
    · rename_i u hk
      simp only [Bool.and_eq_true, beq_iff_eq, bne_iff_ne] at hf
      obtain ⟨⟨⟨hf, hag⟩, hsz⟩, hz⟩ := hf
      have hzu : (E.tt u).sz ≠ 0 := by rw [hsz]; exact hz
      rcases trod_slice (und_slc hk) h with ⟨rfl, hx⟩ | ⟨a, len, cap, n, xs, rest, rfl, hlc, hcm, hxl, hx, hel⟩
      · refine ⟨(none : Option (List e.T)), trivial, ⟨_, _, rfl, by simp [Rep0], rfl⟩, by simp [Sh.bulk, hx, Rows.uptoBulk]⟩
      · rw [cellsOf_sz hzu] at hel
        have hy : ∀ i y, xs[i]? = some y → ∃ z : e.T, e.wf z ∧ e.bulk z ≤ Rows.uptoBulk y.1 ∧ ∃ b o vs, a.add (i * (E.tt u).sz) = ⟨b, o, none⟩ ∧ b < W.heap.size ∧ vs.length = (E.tt u).sz ∧ (∀ j v, vs[j]? = some v → W.cell? ⟨b, o + j, none⟩ = some v) ∧ Rep0s (fun b => b < W.heap.size) W (e.ds z) vs := fun i y hi => by
          obtain ⟨vs, h1, h2⟩ := hel i y hi
          obtain ⟨z, z1, z2, z3⟩ := Sh.read e u hf n vs y h2
          obtain ⟨b, o, g1, g2, g3, g4⟩ := cells_at h1 hzu
          exact ⟨z, z1, z3, b, o, vs, g1, g2, g3, g4, z2⟩
        have hl : ∃ l : List e.T, l.length = len ∧ (∀ y, y ∈ l → e.wf y) ∧ (l.map e.bulk).sum ≤ Rows.uptoBulkAll (xs.map (·.1)) ∧ ∀ i z, l[i]? = some z → ∃ b o vs, a.add (i * (E.tt u).sz) = ⟨b, o, none⟩ ∧ b < W.heap.size ∧ vs.length = (E.tt u).sz ∧ (∀ j v, vs[j]? = some v → W.cell? ⟨b, o + j, none⟩ = some v) ∧ Rep0s (fun b => b < W.heap.size) W (e.ds z) vs := by
          rw [← hxl]
          clear hel hx h hlc hcm hxl
          have : ∀ (k : Nat) (xs : List (DataW H × List MemPlace)), (∀ i y, xs[i]? = some y → ∃ z : e.T, e.wf z ∧ e.bulk z ≤ Rows.uptoBulk y.1 ∧ ∃ b o vs, a.add ((k + i) * (E.tt u).sz) = ⟨b, o, none⟩ ∧ b < W.heap.size ∧ vs.length = (E.tt u).sz ∧ (∀ j v, vs[j]? = some v → W.cell? ⟨b, o + j, none⟩ = some v) ∧ Rep0s (fun b => b < W.heap.size) W (e.ds z) vs) →
              ∃ l : List e.T, l.length = xs.length ∧ (∀ y, y ∈ l → e.wf y) ∧ (l.map e.bulk).sum ≤ Rows.uptoBulkAll (xs.map (·.1)) ∧ ∀ i z, l[i]? = some z → ∃ b o vs, a.add ((k + i) * (E.tt u).sz) = ⟨b, o, none⟩ ∧ b < W.heap.size ∧ vs.length = (E.tt u).sz ∧ (∀ j v, vs[j]? = some v → W.cell? ⟨b, o + j, none⟩ = some v) ∧ Rep0s (fun b => b < W.heap.size) W (e.ds z) vs := by
            intro k xs
            induction xs generalizing k with
            | nil => intro _; exact ⟨[], rfl, by simp, by simp [Rows.uptoBulkAll], by simp⟩
            | cons y ys ih =>
              intro hy
              obtain ⟨z, z1, z2, z3⟩ := hy 0 y rfl
              obtain ⟨l, l1, l2, l3, l4⟩ := ih (k + 1) fun i y' hi => by
                have := hy (i + 1) y' (by simpa using hi)
                rwa [show k + (i + 1) = k + 1 + i by omega] at this
              refine ⟨z :: l, by simp [l1], fun w hw => ?_, ?_, fun i w hi => ?_⟩
              · rcases List.mem_cons.1 hw with rfl | hw
                · exact z1
                · exact l2 w hw
              · simp only [List.map_cons, List.sum_cons, Rows.uptoBulkAll]
                omega
              · cases i with
                | zero => simp at hi; subst hi; exact z3
                | succ i =>
                  have := l4 i w (by simpa using hi)
                  rwa [show k + 1 + i = k + (i + 1) by omega] at this
          have := this 0 xs fun i y hi => by simpa using hy i y hi
          simpa using this
        obtain ⟨l, l1, l2, l3, l4⟩ := hl
        refine ⟨(some l : Option (List e.T)), ⟨by omega, l2⟩, ⟨_, _, rfl, ?_, rfl⟩, ?_⟩
        · simp only [Rep0]
          refine ⟨some a, cap, by rw [l1], by omega, by unfold maxLen at hcm; omega, fun hp => ?_⟩
          obtain ⟨b, o, vs, g1, g2, g3, g4, g5⟩ := l4 0 l[0] (by simp)
          obtain ⟨ab, ao, sp⟩ := a
          have e0 : (⟨ab, ao, sp⟩ : Addr) = ⟨b, o, none⟩ := by simpa [Addr.add] using g1
          cases e0
          refine ⟨b, o, rfl, g2, fun i hi => ?_⟩
          obtain ⟨b', o', vs', k1, k2, k3, k4, k5⟩ := l4 i l[i] (by simp [hi])
          rw [add_at] at k1
          cases k1
          rw [List.getElem?_eq_getElem hi]
          have hpl := plains_one (e.ds_plain l[i]) k5
          have hat : At W b (o + i * e.size) vs' := fun j v hj => ⟨by rw [← hsz]; exact k4 j v hj, hpl v (List.mem_of_getElem? hj)⟩
          cases hag2 : e.ag with
          | true => exact ⟨.agg ⟨vs'⟩, vs', by rw [← hsz]; exact k3, hat, rfl, one_rep k5 (by simp) (by simp [Cells])⟩
          | false =>
            have h1 := e.size_one hag2 hf
            obtain ⟨v, rfl⟩ : ∃ v, vs' = [v] := by
              match vs', k3.trans (hsz.trans h1) with
              | [v], _ => exact ⟨v, rfl⟩
            exact ⟨v, [v], by simp [h1], hat, rfl, one_rep k5 (fun _ => by rw [e.ds_length, h1]) (by simp [Cells])⟩
        · rw [hx]
          simp only [Sh.bulk, Rows.uptoBulk]
          omega
    · cases hf
  | .st fs, t, hf, fuel, cs, x, h => by
    simp only [Sh.fit] at hf
    split at hf
    · rename_i l hk
      simp only [Bool.and_eq_true, beq_iff_eq, bne_iff_ne] at hf
      obtain ⟨⟨hf, hsz⟩, hz⟩ := hf
      obtain ⟨F, hu, rfl⟩ := und_strct hk
      obtain ⟨xs, n, rfl, rfl, hl, hxl, hel⟩ := DataW.trod_struct hu h
      rw [cellsOf_sz (by rw [hsz]; exact hz)] at hl
      obtain ⟨y, y1, y2, y3⟩ := Sh.readF (enc := enc) (W := W) fs _ 0 hf n cs xs (by omega) (by simp [hxl]) fun i o u hi => by
        have hm := List.mem_of_getElem? hi
        rw [List.getElem?_map] at hi
        obtain ⟨f, hf', e⟩ := Option.map_eq_some_iff.1 hi
        cases e
        have := hel i f (by simpa using hf')
        rwa [cellsOf_sz (fitF_nz fs _ 0 hf _ _ hm)] at this
      exact ⟨y, y1, by simp only [Sh.ds]; simpa using y2, by simp only [Sh.bulk, Rows.uptoBulk]; omega⟩
    · rename_i m u hk
      simp only [Bool.and_eq_true, beq_iff_eq, bne_iff_ne] at hf
      obtain ⟨⟨hf, hsz⟩, hz⟩ := hf
      obtain ⟨xs, n, rfl, rfl, hl, hxl, hel⟩ := DataW.trod_array (und_arr hk) h
      rw [cellsOf_sz (by rw [hsz]; exact hz)] at hl
      obtain ⟨y, y1, y2, y3⟩ := Sh.readF (enc := enc) (W := W) fs _ 0 hf n cs xs (by omega) (by simp [hxl]) fun i o v hi => by
        have hm := List.mem_of_getElem? hi
        rw [List.getElem?_map] at hi
        obtain ⟨i', hi', e⟩ := Option.map_eq_some_iff.1 hi
        cases e
        obtain ⟨hlt, e⟩ := List.getElem?_eq_some_iff.1 hi'
        simp only [List.getElem_range] at e
        subst e
        have := hel i (by simpa using hlt)
        rwa [cellsOf_sz (fitF_nz fs _ 0 hf _ _ hm)] at this
      exact ⟨y, y1, by simp only [Sh.ds]; simpa using y2, by simp only [Sh.bulk, Rows.uptoBulk]; omega⟩
    · cases hf
  | .nil, t, hf, fuel, cs, x, h => by simp [Sh.fit] at hf
  | .cons _ _, t, hf, fuel, cs, x, h => by simp [Sh.fit] at hf
theorem Sh.readF {H : Type} {enc : TypeId × Value → H} {W : World} : ∀ (s : Sh) (l : List (Nat × Nat)) (off : Nat), s.fitF E.tt l off = true → ∀ (fuel : Nat) (cs : List Value) (xs : List (DataW H × List MemPlace)), cs.length = off + s.size → xs.length = l.length →
    (∀ (i o u : Nat), l[i]? = some (o, u) → DataW.trod enc E.P W 0 (fun _ => true) true fuel u ((cs.drop o).take (E.tt u).sz) = xs[i]?) → ∃ y : s.T, s.wf y ∧ Rep0s (fun b => b < W.heap.size) W (s.ds y) (cs.drop off) ∧ s.bulk y ≤ Rows.uptoBulkAll (xs.map (·.1))
  | .nil, [], off, hf, fuel, cs, xs, hc, hx, hel => by
    obtain rfl : xs = [] := by simpa using hx
    have : cs.drop off = [] := by simp [Sh.size] at hc; simp; omega
    exact ⟨(), trivial, by simp [Sh.ds, Rep0s, this], by simp [Sh.bulk]⟩
  | .cons a b, (o, u) :: r, off, hf, fuel, cs, xs, hc, hx, hel => by
    simp only [Sh.fitF, Bool.and_eq_true, beq_iff_eq, bne_iff_ne] at hf
    obtain ⟨⟨⟨⟨rfl, hfa⟩, hsz⟩, hz⟩, hfb⟩ := hf
    cases xs with
    | nil => simp at hx
    | cons x xs =>
      have h0 := hel 0 o u rfl
      simp only [List.getElem?_cons_zero] at h0
      obtain ⟨ya, a1, a2, a3⟩ := Sh.read a u hfa fuel _ x h0
      obtain ⟨yb, b1, b2, b3⟩ := Sh.readF b r (o + a.size) hfb fuel cs xs (by simp only [Sh.size] at hc; omega) (by simpa using hx) fun i o' u' hi => by
        have := hel (i + 1) o' u' (by simpa using hi)
        simpa using this
      refine ⟨(ya, yb), ⟨a1, b1⟩, ?_, ?_⟩
      · have := a2.app b2
        rw [hsz, ← List.drop_drop, List.take_append_drop] at this
        exact this
      · simp only [Sh.bulk, List.map_cons, Rows.uptoBulkAll]
        omega
  | .nil, _ :: _, off, hf, _, _, _, _, _, _ => by simp [Sh.fitF] at hf
  | .cons _ _, [], off, hf, _, _, _, _, _, _ => by simp [Sh.fitF] at hf
  | .int _, _, off, hf, _, _, _, _, _, _ => by simp [Sh.fitF] at hf
  | .bool, _, off, hf, _, _, _, _, _, _ => by simp [Sh.fitF] at hf
  | .str, _, off, hf, _, _, _, _, _, _ => by simp [Sh.fitF] at hf
  | .slc _, _, off, hf, _, _, _, _, _, _ => by simp [Sh.fitF] at hf
  | .st _, _, off, hf, _, _, _, _, _, _ => by simp [Sh.fitF] at hf
end
/-- An argument. -/
theorem read_arg {H : Type} {enc : TypeId × Value → H} {W : World} (s : Sh) (t : Nat) (hf : s.fit E.tt t = true) {base : Nat} {v : Value} (hval : Value.okWide E.P W .any base t v) {d : DataW H} {ps : List MemPlace} (h : DataW.Trod enc E.P W 0 (fun _ => true) true t v d ps) :
    ∃ y : s.T, s.wf y ∧ Rep0 (fun b => b < W.heap.size) W (s.d y) v ∧ s.bulk y ≤ Rows.uptoBulk d := by
  obtain ⟨fuel, h⟩ := h
  obtain ⟨y, y1, y2, y3⟩ := s.read t hf fuel _ _ h
  refine ⟨y, y1, one_rep y2 (fun hag => by rw [s.ds_length, s.size_one hag hf]) ?_, y3⟩
  cases s with
  | st fs =>
    simp only [Sh.fit] at hf
    have : ∃ cs, v = .agg cs := by
      split at hf
      · rename_i l hk
        obtain ⟨F, hu, rfl⟩ := und_strct hk
        unfold Value.okWide at hval
        rw [hu] at hval
        obtain ⟨cs, e, _⟩ := hval
        exact ⟨cs, e⟩
      · rename_i m u hk
        unfold Value.okWide at hval
        rw [und_arr hk] at hval
        obtain ⟨cs, e, _⟩ := hval
        exact ⟨cs, e⟩
      · cases hf
    obtain ⟨cs, rfl⟩ := this
    simp [Cells, Sh.ag, Value.cells]
  | nil => simp [Sh.fit] at hf
  | cons => simp [Sh.fit] at hf
  | int k =>
    simp only [Sh.fit, beq_iff_eq] at hf
    simp only [Value.okWide, und_int hf, Cell.okWide] at hval
    cases v <;> first | (simp [Cell.ok, und_int hf] at hval; done) | simp [Cells, Sh.ag, Value.cells]
  | bool =>
    simp only [Sh.fit, beq_iff_eq] at hf
    obtain ⟨i, dd, h1, h2, h3, _⟩ := kind_of hf (by simp)
    cases dd <;> simp [tkOf] at h3
    simp only [Value.okWide, h2, Cell.okWide] at hval
    cases v <;> first | (simp [Cell.ok, h2] at hval; done) | simp [Cells, Sh.ag, Value.cells]
  | str =>
    simp only [Sh.fit, beq_iff_eq] at hf
    simp only [Value.okWide, und_str hf, Cell.okWide] at hval
    cases v <;> first | (simp [Cell.ok, und_str hf] at hval; done) | simp [Cells, Sh.ag, Value.cells]
  | slc e =>
    simp only [Sh.fit] at hf
    split at hf
    · rename_i u hk
      simp only [Value.okWide, und_slc hk, Cell.okWide] at hval
      cases v <;> first | (simp [Cell.ok, und_slc hk] at hval; done) | simp [Cells, Sh.ag, Value.cells]
    · cases hf
/-- A law's call. -/
theorem law_callsG {f : Nat} {ds : List D} {vs : List Value} {W : World} (hg : GOK E (fun b => b < W.heap.size) W) (hC : C E f ds (.bool true)) (hr : Rep0s (fun b => b < W.heap.size) W ds vs) : Calls E.P f ⟨vs⟩ W fun e W' => e = .returned (.bool true) ∧ Below W.heap.size W W' := by
  refine (hC.2 (fun b => b < W.heap.size) W vs (fun _ => none) (fun _ h => h) hg ⟨fun b x h => (by cases h), fun b b' x x' c t t' h => (by cases h)⟩ (fun c ⟨b, x, t, h, _⟩ => (by cases h)) (Rep0s.toV _ _ hr)).mono ?_
  rintro e W' ⟨v, S', φ', rfl, h1, _, _, _, h5, _⟩
  simp only [RepV, Rep0] at h1
  subst h1
  exact ⟨rfl, ⟨h5.os, h5.tape, h5.output, h5.size, fun k hk => h5.block k hk fun ⟨b, x, t, h, _⟩ => (by cases h)⟩⟩
theorem nat_u8 {n : Int} (h : (Lit.int .u8 n).wf = true) : ∃ m : Nat, m < 256 ∧ n = m := by
  have := bounds_u8 h
  exact ⟨n.toNat, by omega, by omega⟩
end Go.Proofs.YtmcinfbckdiaoaaGreatDoor.Lv
