/- The abstract machine: what a state says is still so behind a step that turns one block. -/
import Derived.Test.YtpobbfhdkbnpmaaDoorLvf
set_option linter.unusedVariables false
set_option linter.unusedSimpArgs false
namespace Go.Proofs.YtpobbfhdkbnpmaaDoor.Lv
open Go Go.RowKit

theorem lookB_up (b : Nat) (x : Blk) : ∀ (h : Hp) (b' : Nat), lookB (up h b x) b' = if b' = b ∧ (lookB h b).isSome = true then some x else lookB h b'
  | [], b' => by simp [up, lookB]
  | (c, y) :: r, b' => by
    simp only [up]
    by_cases hb : b = c
    · subst hb
      simp only [if_true, lookB]
      by_cases h : b' = b <;> simp [h]
    · simp only [if_neg hb, lookB, lookB_up b x r b']
      by_cases h : b' = c
      · subst h
        simp [Ne.symm hb]
      · simp only [if_neg h]

theorem BlkAt.mono {H H' : Hp} {φ φ' : Ph} {S : Nat → Prop} {w w' : World} (hx : HpExt H φ H' φ') (hk : Kept S w w') {b : Nat} (hph : φ' b = φ b) (hw : ∀ c t, φ b = some (c, t) → w'.heap[c]? = w.heap[c]?) :
    ∀ {x : Blk}, BlkAt H φ S w b x → BlkAt H' φ' S w' b x
  | .var ag sz d, h => by
    obtain ⟨c, t, h1, h2, x, vs, e, lo, hi, h3, h4, h5, h6, h7⟩ := h
    exact ⟨c, t, hph.trans h1, h2, x, vs, e, lo, hi, (hw c t h1).trans h3, h4, h5, h6, RepV.mono hx hk (fun _ h => h) _ _ h7⟩
  | .row fz ver ag sz n f, h => by
    refine ⟨fun e => h.1 (hph.symm.trans e), fun c tot e => ?_⟩
    have e' := hph.symm.trans e
    obtain ⟨h1, h2, h3, h4, vs, ty, lo, hi, h5, h6, h7, h8⟩ := h.2 c tot e'
    refine ⟨h1, h2, h3, h4, vs, ty, lo, hi, (hw c tot e').trans h5, h6, h7, fun i hi => ?_⟩
    obtain ⟨x, g1, g2⟩ := h8 i hi
    exact ⟨x, g1, Rep0.mono hk (fun _ h => h) _ _ g2⟩

structure Turn (B : Base) (s : St) (φ : Ph) (S : Nat → Prop) (w : World) (b : Nat) (H' : Hp) (φ' : Ph) (nx' : Nat) (w1 : World) : Prop where
  same : ∀ b', b' ≠ b → lookB H' b' = lookB s.h b' ∧ φ' b' = φ b'
  ext : (∀ ag sz d, lookB s.h b = some (.var ag sz d) → (∃ d', lookB H' b = some (.var ag sz d')) ∧ φ' b = φ b) ∧
    (∀ fz ver ag sz m f, lookB s.h b = some (.row fz ver ag sz m f) → ∃ fz' ver' m' f', lookB H' b = some (.row fz' ver' ag sz m' f') ∧ ver ≤ ver' ∧ (ver = ver' → m ≤ m' ∧ φ' b = φ b))
  at_ : ∀ c t, φ' b = some (c, t) → c < w1.heap.size ∧ (B.w0.heap.size ≤ c ∨ B.G c) ∧ (c = w.heap.size ∨ ∃ x t', lookB s.h b = some x ∧ φ b = some (c, t'))
  os : w1.os = w.os
  tape : w1.tape = w.tape
  output : w1.output = w.output
  size : w.heap.size ≤ w1.heap.size
  block : ∀ k, k < w.heap.size → (∀ x c t, lookB s.h b = some x → φ b = some (c, t) → k ≠ c) → w1.heap[k]? = w.heap[k]?
  safe : ∀ x c t, lookB s.h b = some x → φ b = some (c, t) → ¬ S c
  nx : ∀ b' x, lookB H' b' = some x → b' < nx'
  fresh : lookB s.h b = none → b = s.nx
  nxm : s.nx ≤ nx'

theorem Turn.hpext {B : Base} {s : St} {φ : Ph} {S : Nat → Prop} {w : World} {b : Nat} {H' : Hp} {φ' : Ph} {nx' : Nat} {w1 : World} (t : Turn B s φ S w b H' φ' nx' w1) : HpExt s.h φ H' φ' := fun b' => by
  by_cases hb : b' = b
  · subst hb; exact t.ext
  · obtain ⟨h1, h2⟩ := t.same b' hb
    exact ⟨fun ag sz d h => ⟨⟨d, h1.trans h⟩, h2⟩, fun fz ver ag sz m f h => ⟨fz, ver, m, f, h1.trans h, Nat.le_refl _, fun _ => ⟨Nat.le_refl _, h2⟩⟩⟩
theorem Turn.kept {B : Base} {s : St} {φ : Ph} {S : Nat → Prop} {w : World} {b : Nat} {H' : Hp} {φ' : Ph} {nx' : Nat} {w1 : World} (t : Turn B s φ S w b H' φ' nx' w1) (hs : ∀ b, S b → b < w.heap.size) : Kept S w w1 := fun k hk =>
  t.block k (hs k hk) fun x c t' h1 h2 e => t.safe x c t' h1 h2 (e ▸ hk)

theorem Turn.rel {B : Base} {s : St} {φ : Ph} {S : Nat → Prop} {a : Act} {w : World} {b : Nat} {H' : Hp} {φ' : Ph} {nx' : Nat} {w1 : World} (hr : Rel B s φ S a w) (t : Turn B s φ S w b H' φ' nx' w1)
    (hb : ∀ x, lookB H' b = some x → BlkAt H' φ' S w1 b x) : Rel B ⟨s.e, H', nx'⟩ φ' S a w1 := by
  have hx := t.hpext
  have hk := t.kept hr.slt
  refine ⟨fun i => RepV.mono hx hk (fun _ h => h) _ _ (hr.env i), hr.size, ⟨fun b' x h => ?_, fun b1 b2 x1 x2 c t1 t2 l1 l2 p1 p2 => ?_⟩, t.nx, fun b' h => Nat.lt_of_lt_of_le (hr.slt b' h) t.size, fun b' x c t' l p => ?_, fun b' x c t' l p => ?_, hr.s0, hr.s1, ?_, hr.ext.trans hx (fun b' hb' => ?_), Nat.le_trans hr.nx0 t.nxm, hr.def0.move fun D hD _ hS ho => ⟨t.block D hD fun x c t' l p e => ho b x c t' l p e.symm, hS, fun b' x c t' l p e => ?_⟩⟩
  · by_cases e : b' = b
    · subst e; exact hb x h
    · obtain ⟨h1, h2⟩ := t.same b' e
      refine BlkAt.mono hx hk h2 (fun c t' hp => ?_) (hr.hp.blk b' x (h1.symm.trans h))
      refine t.block c (hr.plt b' x c t' (h1.symm.trans h) hp) fun y c2 t2 l2 p2 ec => ?_
      subst ec
      exact e (hr.hp.inj b' b x y c t' t2 (h1.symm.trans h) l2 hp p2)
  · have key : ∀ b2 x2 t1 t2, b2 ≠ b → lookB H' b2 = some x2 → φ' b = some (c, t1) → φ' b2 = some (c, t2) → False := by
      intro b2 x2 t1 t2 e l2 p1 p2
      obtain ⟨h1, h2⟩ := t.same b2 e
      have l2' := h1.symm.trans l2
      have p2' := h2.symm.trans p2
      obtain ⟨_, _, h3⟩ := t.at_ c t1 p1
      have hlt := hr.plt b2 x2 c t2 l2' p2'
      rcases h3 with h3 | ⟨x, t', l, p⟩
      · omega
      · exact e (hr.hp.inj b2 b x2 x c t2 t' l2' l p2' p)
    by_cases e1 : b1 = b
    · by_cases e2 : b2 = b
      · rw [e1, e2]
      · subst e1; exact (key b2 x2 t1 t2 e2 l2 p1 p2).elim
    · by_cases e2 : b2 = b
      · subst e2; exact (key b1 x1 t2 t1 e1 l1 p2 p1).elim
      · obtain ⟨h1, h2⟩ := t.same b1 e1
        obtain ⟨h3, h4⟩ := t.same b2 e2
        exact hr.hp.inj b1 b2 x1 x2 c t1 t2 (h1.symm.trans l1) (h3.symm.trans l2) (h2.symm.trans p1) (h4.symm.trans p2)
  · by_cases e : b' = b
    · subst e; exact (t.at_ c t' p).1
    · obtain ⟨h1, h2⟩ := t.same b' e
      exact Nat.lt_of_lt_of_le (hr.plt b' x c t' (h1.symm.trans l) (h2.symm.trans p)) t.size
  · by_cases e : b' = b
    · subst e; exact (t.at_ c t' p).2.1
    · obtain ⟨h1, h2⟩ := t.same b' e
      exact hr.old b' x c t' (h1.symm.trans l) (h2.symm.trans p)
  · have hbl := hr.below
    refine ⟨t.os.trans hbl.os, t.tape.trans hbl.tape, t.output.trans hbl.output, Nat.le_trans hbl.size t.size, fun k hk hG => ?_⟩
    rw [t.block k (Nat.lt_of_lt_of_le hk hbl.size) fun x c t' l p e => by rcases hr.old b x c t' l p with h | h; omega; exact hG (e ▸ h)]
    exact hbl.block k hk hG
  · by_cases e : b' = b
    · cases hl : lookB s.h b' with
      | some x => exact .inl rfl
      | none =>
        have hb := t.fresh (e ▸ hl)
        refine .inr ?_
        cases hl0 : lookB B.h0 b' with
        | none => rfl
        | some x =>
          have h1 := mx_lt hl0
          have h2 := hr.nx0
          omega
    · rw [(t.same b' e).1] at hb'
      exact .inl hb'
  · subst e
    by_cases eb : b' = b
    · subst eb
      rcases (t.at_ c t' p).2.2 with h1 | ⟨y, t2, h1, h2⟩
      · omega
      · exact ho b' y c t2 h1 h2 rfl
    · obtain ⟨h1, h2⟩ := t.same b' eb
      exact ho b' x c t' (h1.symm.trans l) (h2.symm.trans p) rfl

/-- A new block. -/
def phUp (φ : Ph) (b : Nat) (p : Option (Nat × Nat)) : Ph := fun b' => if b' = b then p else φ b'
theorem turn_new {B : Base} {s : St} {φ : Ph} {S : Nat → Prop} {a : Act} {w : World} (hr : Rel B s φ S a w) (x : Blk) (p : Option (Nat × Nat)) (hp : ∀ c t, p = some (c, t) → c = w.heap.size) {w1 : World}
    (h1 : w1.os = w.os) (h2 : w1.tape = w.tape) (h3 : w1.output = w.output) (h4 : w.heap.size ≤ w1.heap.size) (h5 : ∀ k, k < w.heap.size → w1.heap[k]? = w.heap[k]?) (h6 : p ≠ none → w.heap.size < w1.heap.size) :
    Turn B s φ S w s.nx ((s.nx, x) :: s.h) (phUp φ s.nx p) (s.nx + 1) w1 := by
  have hno : ∀ y, lookB s.h s.nx = some y → False := fun y h => Nat.lt_irrefl _ (hr.nx _ _ h)
  refine ⟨fun b' e => ⟨by simp [lookB, e], by simp [phUp, e]⟩, ⟨fun ag sz d h => (hno _ h).elim, fun fz ver ag sz m f h => (hno _ h).elim⟩, fun c t e => ?_, h1, h2, h3, h4, fun k hk _ => h5 k hk, fun y c t l => (hno _ l).elim, fun b' y l => ?_, fun _ => rfl, Nat.le_succ _⟩
  · simp only [phUp, if_true] at e
    obtain rfl := hp c t e
    exact ⟨h6 (by rw [e]; simp), .inl hr.below.size, .inl rfl⟩
  · simp only [lookB] at l
    split at l
    · omega
    · exact Nat.lt_succ_of_lt (hr.nx _ _ l)

/-- One of the own blocks turned, in its place or elsewhere. -/
theorem turn_up {B : Base} {s : St} {φ : Ph} {S : Nat → Prop} {a : Act} {w : World} (hr : Rel B s φ S a w) {b : Nat} {y x : Blk} (hl : lookB s.h b = some y) (p : Option (Nat × Nat)) {w1 : World}
    (hsafe : ∀ c t, φ b = some (c, t) → ¬ S c)
    (hext : (∀ ag sz d, y = .var ag sz d → (∃ d', x = .var ag sz d') ∧ p = φ b) ∧ (∀ fz ver ag sz m f, y = .row fz ver ag sz m f → ∃ fz' ver' m' f', x = .row fz' ver' ag sz m' f' ∧ ver ≤ ver' ∧ (ver = ver' → m ≤ m' ∧ p = φ b)))
    (hp : ∀ c t, p = some (c, t) → c = w.heap.size ∧ w.heap.size < w1.heap.size ∨ ∃ t', φ b = some (c, t'))
    (h1 : w1.os = w.os) (h2 : w1.tape = w.tape) (h3 : w1.output = w.output) (h4 : w.heap.size ≤ w1.heap.size) (h5 : ∀ k, k < w.heap.size → (∀ c t, φ b = some (c, t) → k ≠ c) → w1.heap[k]? = w.heap[k]?) :
    Turn B s φ S w b (up s.h b x) (phUp φ b p) s.nx w1 := by
  have hlu : lookB (up s.h b x) b = some x := by rw [lookB_up]; simp [hl]
  have hne : ∀ b', b' ≠ b → lookB (up s.h b x) b' = lookB s.h b' := fun b' e => by rw [lookB_up]; simp [e]
  refine ⟨fun b' e => ⟨hne b' e, by simp [phUp, e]⟩, ⟨fun ag sz d h => ?_, fun fz ver ag sz m f h => ?_⟩, fun c t e => ?_, h1, h2, h3, h4, fun k hk h => h5 k hk fun c t e => h y c t hl e, fun y' c t l e => hsafe c t e, fun b' z l => ?_, fun e => (by rw [hl] at e; cases e), Nat.le_refl _⟩
  · rw [hl] at h
    obtain ⟨⟨d', e⟩, e2⟩ := hext.1 ag sz d (Option.some.inj h)
    exact ⟨⟨d', by rw [hlu, e]⟩, by simp [phUp, e2]⟩
  · rw [hl] at h
    obtain ⟨fz', ver', m', f', e, h6, h7⟩ := hext.2 fz ver ag sz m f (Option.some.inj h)
    exact ⟨fz', ver', m', f', by rw [hlu, e], h6, fun e => by simpa [phUp] using h7 e⟩
  · simp only [phUp, if_true] at e
    rcases hp c t e with ⟨rfl, h⟩ | ⟨t', h⟩
    · exact ⟨h, .inl hr.below.size, .inl rfl⟩
    · exact ⟨Nat.lt_of_lt_of_le (hr.plt b y c t' hl h) h4, hr.old b y c t' hl h, .inr ⟨y, t', hl, h⟩⟩
  · by_cases e : b' = b
    · subst e; exact hr.nx _ _ hl
    · exact hr.nx _ _ ((hne b' e).symm.trans l)

end Go.Proofs.YtpobbfhdkbnpmaaDoor.Lv
