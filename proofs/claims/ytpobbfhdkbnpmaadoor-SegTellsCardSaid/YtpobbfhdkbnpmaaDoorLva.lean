/- The abstract machine: values, states, what they say of a world, and that what is read stays as it was. -/
import Derived.Test.YtpobbfhdkbnpmaaDoorProg
import Derived.WalkKit
import Derived.KernelRfl
import Derived.Orders
import Derived.Below
set_option linter.unusedVariables false
set_option linter.unusedSimpArgs false
namespace Go.Proofs.YtpobbfhdkbnpmaaDoor.Lv
open Go Go.RowKit

/-- Abstract values. -/
inductive D where
  | int (k : IntKind) (n : Int)
  | bool (b : Bool)
  | str (s : List UInt8)
  | nilp | nils | nilm | nilf
  | agg (cs : List D)
  | ro (ag : Bool) (sz n : Nat) (f : Nat → D)
  | sl (b ver off n : Nat)
  | ad (b off : Nat)
  | el (b ver i fo : Nat)
  | vs (b off esz n : Nat)
  | ra (ag : Bool) (sz : Nat) (d : D) (fo : Nat)
  | fn (f : Nat) (cap : List D)
  | tup (ds : List D)
  | gl (g : Nat)
  | unk

inductive Blk where
  | var (ag : Bool) (sz : Nat) (d : D)
  | row (fz : Bool) (ver : Nat) (ag : Bool) (sz n : Nat) (f : Nat → D)

abbrev Hp := List (Nat × Blk)

def look {α : Type} (d : α) : List (Nat × α) → Nat → α
  | [], _ => d
  | (b, x) :: r, t => if t = b then x else look d r t
def lookB : Hp → Nat → Option Blk
  | [], _ => none
  | (b, x) :: r, t => if t = b then some x else lookB r t

/-- The cells at a place. -/
def At (w : World) (b o : Nat) (vs : List Value) : Prop := ∀ j x, vs[j]? = some x → w.cell? ⟨b, o + j, none⟩ = some x ∧ x.oneCell' = true
/-- A value as the cells that it takes; ag: is its type a struct or an array? -/
def Cells (ag : Bool) (x : Value) (vs : List Value) : Prop := if ag then x = .agg ⟨vs⟩ else vs = [x]

section
variable (S : Nat → Prop) (w : World)
mutual
/-- What a value says, of memory that stays as it is. -/
def Rep0 : D → Value → Prop
  | .int k n, v => v = .int k n
  | .bool b, v => v = .bool b
  | .str s, v => v = .string ⟨s.toArray⟩
  | .nilp, v => v = .pointer none
  | .nils, v => v = .slice none 0 0
  | .nilm, v => v = .map none
  | .nilf, v => v = .nilFunc
  | .agg cs, v => ∃ vs, v = .agg ⟨vs⟩ ∧ Rep0s cs vs
  | .ro ag sz n f, v => ∃ a cap, v = .slice a n cap ∧ n ≤ cap ∧ cap ≤ 9223372036854775807 ∧ (0 < n → ∃ b o, a = some ⟨b, o, none⟩ ∧ S b ∧
      ∀ i, i < n → ∃ x vs, vs.length = sz ∧ At w b (o + i * sz) vs ∧ Cells ag x vs ∧ Rep0 (f i) x)
  | .ra ag sz d fo, v => ∃ b o x vs, v = .pointer (some ⟨b, o + fo, none⟩) ∧ S b ∧ vs.length = sz ∧ At w b o vs ∧ Cells ag x vs ∧ Rep0 d x
  | .fn f cap, v => ∃ vs, v = .func (.func f) #[] ⟨vs⟩ ∧ Rep0s cap vs
  | .tup ds, v => ∃ vs, v = .tuple ⟨vs⟩ ∧ Rep0s ds vs
  | .gl g, v => v = .pointer (some ⟨g, 0, none⟩)
  | .sl .., _ | .ad .., _ | .el .., _ | .vs .., _ => False
  | .unk, _ => True
def Rep0s : List D → List Value → Prop
  | [], vs => vs = []
  | d :: ds, vs => ∃ v vs', vs = v :: vs' ∧ Rep0 d v ∧ Rep0s ds vs'
end
end

/-- Memory that is told to stay has stayed. -/
def Kept (S : Nat → Prop) (w w' : World) : Prop := ∀ b, S b → w'.heap[b]? = w.heap[b]?
theorem Kept.at {S : Nat → Prop} {w w' : World} (h : Kept S w w') {b o : Nat} (hb : S b) {vs : List Value} (ha : At w b o vs) : At w' b o vs :=
  fun j x hj => ⟨(World.cell?_of_block (w := w) (h b hb)).trans (ha j x hj).1, (ha j x hj).2⟩

section
variable {S S' : Nat → Prop} {w w' : World}
mutual
theorem Rep0.mono (hk : Kept S w w') (hs : ∀ b, S b → S' b) : ∀ (d : D) (v : Value), Rep0 S w d v → Rep0 S' w' d v
  | .int .., _, h | .bool .., _, h | .str .., _, h | .nilp, _, h | .nils, _, h | .nilm, _, h | .nilf, _, h | .gl .., _, h | .unk, _, h => by simp only [Rep0] at h ⊢ <;> exact h
  | .sl .., _, h | .ad .., _, h | .el .., _, h | .vs .., _, h => by simp [Rep0] at h
  | .agg cs, v, h => by
    simp only [Rep0] at h ⊢
    obtain ⟨vs, e, h⟩ := h
    exact ⟨vs, e, Rep0s.mono hk hs cs vs h⟩
  | .tup cs, v, h => by
    simp only [Rep0] at h ⊢
    obtain ⟨vs, e, h⟩ := h
    exact ⟨vs, e, Rep0s.mono hk hs cs vs h⟩
  | .fn f cs, v, h => by
    simp only [Rep0] at h ⊢
    obtain ⟨vs, e, h⟩ := h
    exact ⟨vs, e, Rep0s.mono hk hs cs vs h⟩
  | .ro ag sz n f, v, h => by
    simp only [Rep0] at h ⊢
    obtain ⟨a, cap, e, hn, hc, h⟩ := h
    refine ⟨a, cap, e, hn, hc, fun hp => ?_⟩
    obtain ⟨b, o, ea, hb, h⟩ := h hp
    refine ⟨b, o, ea, hs b hb, fun i hi => ?_⟩
    obtain ⟨x, vs, hl, hat, hce, hr⟩ := h i hi
    exact ⟨x, vs, hl, hk.at hb hat, hce, Rep0.mono hk hs (f i) x hr⟩
  | .ra ag sz d fo, v, h => by
    simp only [Rep0] at h ⊢
    obtain ⟨b, o, x, vs, e, hb, hl, hat, hce, hr⟩ := h
    exact ⟨b, o, x, vs, e, hs b hb, hl, hk.at hb hat, hce, Rep0.mono hk hs d x hr⟩
theorem Rep0s.mono (hk : Kept S w w') (hs : ∀ b, S b → S' b) : ∀ (ds : List D) (vs : List Value), Rep0s S w ds vs → Rep0s S' w' ds vs
  | [], vs, h => by simp only [Rep0s] at h ⊢; exact h
  | d :: ds, vs, h => by
    simp only [Rep0s] at h ⊢
    obtain ⟨v, vs', e, h1, h2⟩ := h
    exact ⟨v, vs', e, Rep0.mono hk hs d v h1, Rep0s.mono hk hs ds vs' h2⟩
end
end

/-- Where an own block lies, and how many elements it takes. -/
abbrev Ph := Nat → Option (Nat × Nat)

section
variable (H : Hp) (φ : Ph) (S : Nat → Prop) (w : World)
mutual
/-- What a value says, where it may lead to blocks of the call's own. -/
def RepV : D → Value → Prop
  | .agg cs, v => ∃ vs, v = .agg ⟨vs⟩ ∧ RepVs cs vs
  | .fn f cap, v => ∃ vs, v = .func (.func f) #[] ⟨vs⟩ ∧ RepVs cap vs
  | .tup ds, v => ∃ vs, v = .tuple ⟨vs⟩ ∧ RepVs ds vs
  | .sl b ver off n, v => ∃ fz ver' ag sz m f, lookB H b = some (.row fz ver' ag sz m f) ∧ ver ≤ ver' ∧ (ver = ver' → off + n ≤ m ∧ ∃ a cap, v = .slice a n cap ∧ n ≤ cap ∧ (φ b = none → a = none ∧ cap = 0) ∧
      ∀ c tot, φ b = some (c, tot) → off + cap = tot ∧ a.isSome = true ∧ (0 < cap → a = some ⟨c, off * sz, none⟩))
  | .ad b off, v => ∃ ag sz d c t, lookB H b = some (.var ag sz d) ∧ φ b = some (c, t) ∧ v = .pointer (some ⟨c, off, none⟩)
  | .el b ver i fo, v => ∃ fz ver' ag sz m f, lookB H b = some (.row fz ver' ag sz m f) ∧ ver ≤ ver' ∧ (ver = ver' → i < m ∧ ∃ c t, φ b = some (c, t) ∧ v = .pointer (some ⟨c, i * sz + fo, none⟩))
  | .vs b off esz n, v => ∃ ag sz d c t a cap, lookB H b = some (.var ag sz d) ∧ φ b = some (c, t) ∧ v = .slice a n cap ∧ n ≤ cap ∧ (0 < cap → a = some ⟨c, off, none⟩) ∧ a.isSome = true
  | d, v => Rep0 S w d v
def RepVs : List D → List Value → Prop
  | [], vs => vs = []
  | d :: ds, vs => ∃ v vs', vs = v :: vs' ∧ RepV d v ∧ RepVs ds vs'
end

/-- A block of the call's own, in the world. -/
def BlkAt (b : Nat) : Blk → Prop
  | .var ag sz d => ∃ c t, φ b = some (c, t) ∧ ¬ S c ∧ ∃ x vs e lo hi, w.heap[c]? = some (.cells ⟨vs⟩ e (lo, hi)) ∧ vs.length = sz ∧ ((∀ o, o < sz → ¬ (lo ≤ o ∧ o < hi)) ∧ ∀ y ∈ vs, y.oneCell' = true) ∧ Cells ag x vs ∧ RepV H φ S w d x
  | .row fz ver ag sz n f => (φ b = none → n = 0) ∧ ∀ c tot, φ b = some (c, tot) → (fz = false → ¬ S c) ∧ (fz = true → S c) ∧ tot ≤ 9223372036854775807 ∧ n ≤ tot ∧
      ∃ vs e lo hi, w.heap[c]? = some (.cells ⟨vs⟩ e (lo, hi)) ∧ vs.length = tot * sz ∧ ((∀ o, o < tot * sz → ¬ (lo ≤ o ∧ o < hi)) ∧ ∀ y ∈ vs, y.oneCell' = true) ∧
      ∀ i, i < n → ∃ x, Cells ag x ((vs.drop (i * sz)).take sz) ∧ Rep0 S w (f i) x
end

/-- The own blocks may have turned so. -/
def HpExt (H : Hp) (φ : Ph) (H' : Hp) (φ' : Ph) : Prop := ∀ b,
  (∀ ag sz d, lookB H b = some (.var ag sz d) → (∃ d', lookB H' b = some (.var ag sz d')) ∧ φ' b = φ b) ∧
  (∀ fz ver ag sz m f, lookB H b = some (.row fz ver ag sz m f) → ∃ fz' ver' m' f', lookB H' b = some (.row fz' ver' ag sz m' f') ∧ ver ≤ ver' ∧ (ver = ver' → m ≤ m' ∧ φ' b = φ b))
theorem HpExt.refl (H : Hp) (φ : Ph) : HpExt H φ H φ := fun b => ⟨fun ag sz d h => ⟨⟨d, h⟩, rfl⟩, fun fz ver ag sz m f h => ⟨fz, ver, m, f, h, Nat.le_refl _, fun _ => ⟨Nat.le_refl _, rfl⟩⟩⟩

theorem HpExt.trans {H H' H'' : Hp} {φ φ' φ'' : Ph} (h : HpExt H φ H' φ') (h' : HpExt H' φ' H'' φ'') : HpExt H φ H'' φ'' := fun b =>
  ⟨fun ag sz d e => by
    obtain ⟨⟨d1, e1⟩, p1⟩ := (h b).1 ag sz d e
    obtain ⟨⟨d2, e2⟩, p2⟩ := (h' b).1 ag sz d1 e1
    exact ⟨⟨d2, e2⟩, p2.trans p1⟩,
   fun fz ver ag sz m f e => by
    obtain ⟨fz1, ver1, m1, f1, e1, v1, p1⟩ := (h b).2 fz ver ag sz m f e
    obtain ⟨fz2, ver2, m2, f2, e2, v2, p2⟩ := (h' b).2 fz1 ver1 ag sz m1 f1 e1
    refine ⟨fz2, ver2, m2, f2, e2, Nat.le_trans v1 v2, fun e3 => ?_⟩
    have a1 := p1 (by omega)
    have a2 := p2 (by omega)
    exact ⟨Nat.le_trans a1.1 a2.1, a2.2.trans a1.2⟩⟩

/-- So have turned those that are still known. -/
def HpOn (H : Hp) (φ : Ph) (H' : Hp) (φ' : Ph) : Prop := ∀ b, (lookB H' b).isSome = true →
  (∀ ag sz d, lookB H b = some (.var ag sz d) → (∃ d', lookB H' b = some (.var ag sz d')) ∧ φ' b = φ b) ∧
  (∀ fz ver ag sz m f, lookB H b = some (.row fz ver ag sz m f) → ∃ fz' ver' m' f', lookB H' b = some (.row fz' ver' ag sz m' f') ∧ ver ≤ ver' ∧ (ver = ver' → m ≤ m' ∧ φ' b = φ b))
theorem HpOn.refl (H : Hp) (φ : Ph) : HpOn H φ H φ := fun b _ => HpExt.refl H φ b
theorem HpOn.trans {H H' H'' : Hp} {φ φ' φ'' : Ph} (h : HpOn H φ H' φ') (h' : HpExt H' φ' H'' φ'') (hn : ∀ b, (lookB H'' b).isSome = true → (lookB H' b).isSome = true ∨ lookB H b = none) : HpOn H φ H'' φ'' := fun b hb => by
  rcases hn b hb with hs | hn
  · refine ⟨fun ag sz d e => ?_, fun fz ver ag sz m f e => ?_⟩
    · obtain ⟨⟨d1, e1⟩, p1⟩ := (h b hs).1 ag sz d e
      obtain ⟨⟨d2, e2⟩, p2⟩ := (h' b).1 ag sz d1 e1
      exact ⟨⟨d2, e2⟩, p2.trans p1⟩
    · obtain ⟨fz1, ver1, m1, f1, e1, v1, p1⟩ := (h b hs).2 fz ver ag sz m f e
      obtain ⟨fz2, ver2, m2, f2, e2, v2, p2⟩ := (h' b).2 fz1 ver1 ag sz m1 f1 e1
      refine ⟨fz2, ver2, m2, f2, e2, Nat.le_trans v1 v2, fun e3 => ?_⟩
      have a1 := p1 (by omega)
      have a2 := p2 (by omega)
      exact ⟨Nat.le_trans a1.1 a2.1, a2.2.trans a1.2⟩
  · exact ⟨fun ag sz d e => (by rw [hn] at e; cases e), fun fz ver ag sz m f e => (by rw [hn] at e; cases e)⟩
def mx : Hp → Nat
  | [] => 0
  | (i, _) :: r => max (i + 1) (mx r)
theorem mx_lt : ∀ {h : Hp} {i : Nat} {y : Blk}, lookB h i = some y → i < mx h
  | (j, z) :: r, i, y, h => by
    simp only [lookB] at h
    simp only [mx]
    split at h
    · omega
    · have := mx_lt h; omega

section
variable {H H' : Hp} {φ φ' : Ph} {S S' : Nat → Prop} {w w' : World}
mutual
theorem Rep0.toV : ∀ (d : D) (v : Value), Rep0 S w d v → RepV H φ S w d v
  | .int .., _, h | .bool .., _, h | .str .., _, h | .nilp, _, h | .nils, _, h | .nilm, _, h | .nilf, _, h | .gl .., _, h | .unk, _, h | .ro .., _, h | .ra .., _, h => by simpa only [RepV] using h
  | .sl .., _, h | .ad .., _, h | .el .., _, h | .vs .., _, h => by simp only [Rep0] at h
  | .agg cs, v, h => by
    simp only [Rep0, RepV] at h ⊢
    obtain ⟨vs, e, h⟩ := h
    exact ⟨vs, e, Rep0s.toV cs vs h⟩
  | .tup cs, v, h => by
    simp only [Rep0, RepV] at h ⊢
    obtain ⟨vs, e, h⟩ := h
    exact ⟨vs, e, Rep0s.toV cs vs h⟩
  | .fn f cs, v, h => by
    simp only [Rep0, RepV] at h ⊢
    obtain ⟨vs, e, h⟩ := h
    exact ⟨vs, e, Rep0s.toV cs vs h⟩
theorem Rep0s.toV : ∀ (ds : List D) (vs : List Value), Rep0s S w ds vs → RepVs H φ S w ds vs
  | [], vs, h => by simpa only [Rep0s, RepVs] using h
  | d :: ds, vs, h => by
    simp only [Rep0s, RepVs] at h ⊢
    obtain ⟨v, vs', e, h1, h2⟩ := h
    exact ⟨v, vs', e, Rep0.toV d v h1, Rep0s.toV ds vs' h2⟩
end

mutual
theorem RepV.mono (hx : HpExt H φ H' φ') (hk : Kept S w w') (hs : ∀ b, S b → S' b) : ∀ (d : D) (v : Value), RepV H φ S w d v → RepV H' φ' S' w' d v
  | .int .., _, h | .bool .., _, h | .str .., _, h | .nilp, _, h | .nils, _, h | .nilm, _, h | .nilf, _, h | .gl .., _, h | .unk, _, h | .ro .., _, h | .ra .., _, h => by
    simp only [RepV] at h ⊢
    exact Rep0.mono hk hs _ _ h
  | .sl b ver off n, v, h => by
    simp only [RepV] at h ⊢
    obtain ⟨fz, ver', ag, sz, m, f, hl, hv, h⟩ := h
    obtain ⟨fz2, ver2, m2, f2, hl2, hv2, h2⟩ := (hx b).2 _ _ _ _ _ _ hl
    refine ⟨fz2, ver2, ag, sz, m2, f2, hl2, by omega, fun e => ?_⟩
    obtain ⟨h3, a, cap, e1, h4, h5, h6⟩ := h (by omega)
    obtain ⟨h7, h8⟩ := h2 (by omega)
    rw [h8]
    exact ⟨by omega, a, cap, e1, h4, h5, h6⟩
  | .ad b off, v, h => by
    simp only [RepV] at h ⊢
    obtain ⟨ag, sz, d, c, t, hl, hp, e⟩ := h
    obtain ⟨⟨d', h1⟩, h2⟩ := (hx b).1 _ _ _ hl
    exact ⟨ag, sz, d', c, t, h1, h2.trans hp, e⟩
  | .el b ver i fo, v, h => by
    simp only [RepV] at h ⊢
    obtain ⟨fz, ver', ag, sz, m, f, hl, hv, h⟩ := h
    obtain ⟨fz2, ver2, m2, f2, hl2, hv2, h2⟩ := (hx b).2 _ _ _ _ _ _ hl
    refine ⟨fz2, ver2, ag, sz, m2, f2, hl2, by omega, fun e => ?_⟩
    obtain ⟨h3, c, t, e1, h4⟩ := h (by omega)
    obtain ⟨h7, h8⟩ := h2 (by omega)
    exact ⟨by omega, c, t, h8.trans e1, h4⟩
  | .vs b off esz n, v, h => by
    simp only [RepV] at h ⊢
    obtain ⟨ag, sz, d, c, t, a, cap, hl, hp, e⟩ := h
    obtain ⟨⟨d', h1⟩, h2⟩ := (hx b).1 _ _ _ hl
    exact ⟨ag, sz, d', c, t, a, cap, h1, h2.trans hp, e⟩
  | .agg cs, v, h => by
    simp only [RepV] at h ⊢
    obtain ⟨vs, e, h⟩ := h
    exact ⟨vs, e, RepVs.mono hx hk hs cs vs h⟩
  | .tup cs, v, h => by
    simp only [RepV] at h ⊢
    obtain ⟨vs, e, h⟩ := h
    exact ⟨vs, e, RepVs.mono hx hk hs cs vs h⟩
  | .fn f cs, v, h => by
    simp only [RepV] at h ⊢
    obtain ⟨vs, e, h⟩ := h
    exact ⟨vs, e, RepVs.mono hx hk hs cs vs h⟩
theorem RepVs.mono (hx : HpExt H φ H' φ') (hk : Kept S w w') (hs : ∀ b, S b → S' b) : ∀ (ds : List D) (vs : List Value), RepVs H φ S w ds vs → RepVs H' φ' S' w' ds vs
  | [], vs, h => by simpa only [RepVs] using h
  | d :: ds, vs, h => by
    simp only [RepVs] at h ⊢
    obtain ⟨v, vs', e, h1, h2⟩ := h
    exact ⟨v, vs', e, RepV.mono hx hk hs d v h1, RepVs.mono hx hk hs ds vs' h2⟩
end
end

/-- The own blocks, as a whole. -/
structure HpAt (H : Hp) (φ : Ph) (S : Nat → Prop) (w : World) : Prop where
  blk : ∀ b x, lookB H b = some x → BlkAt H φ S w b x
  inj : ∀ b b' x x' c t t', lookB H b = some x → lookB H b' = some x' → φ b = some (c, t) → φ b' = some (c, t') → b = b'

structure St where
  e : Nat → D
  h : Hp
  nx : Nat

/-- What a call began with: the world, what stays, what it was given to write, the number of its slots. -/
structure Base where
  w0 : World
  S0 : Nat → Prop
  G : Nat → Prop
  N : Nat
  h0 : Hp
  φ0 : Ph
  /-- From here on marks lie. -/
  n0 : Nat
/-- Of what was there, only what was given has turned. -/
structure Trod (G : Nat → Prop) (w w' : World) : Prop where
  os : w'.os = w.os
  tape : w'.tape = w.tape
  output : w'.output = w.output
  size : w.heap.size ≤ w'.heap.size
  block : ∀ k, k < w.heap.size → ¬ G k → w'.heap[k]? = w.heap[k]?

/-- The marks that ranges over functions have left among the deferred calls. -/
def Marked (n0 : Nat) (h : Hp) (φ : Ph) (S : Nat → Prop) (w : World) (ds : List Deferred) : Prop :=
  ∃ Ds : List Nat, ds = Ds.map (fun D => ({ target := .collected D, args := #[] } : Deferred)) ∧ Ds.Nodup ∧
    ∀ D, D ∈ Ds → w.heap[D]? = some (.deferred (some [])) ∧ n0 ≤ D ∧ ¬ S D ∧ ∀ b x c t, lookB h b = some x → φ b = some (c, t) → c ≠ D
theorem Marked.nil (n0 : Nat) (h : Hp) (φ : Ph) (S : Nat → Prop) (w : World) : Marked n0 h φ S w [] := ⟨[], rfl, List.nodup_nil, fun D hD => by cases hD⟩
theorem Marked.move {n0 : Nat} {h h' : Hp} {φ φ' : Ph} {S S' : Nat → Prop} {w w' : World} {ds : List Deferred} (hm : Marked n0 h φ S w ds)
    (hh : ∀ D, D < w.heap.size → n0 ≤ D → ¬ S D → (∀ b x c t, lookB h b = some x → φ b = some (c, t) → c ≠ D) → w'.heap[D]? = w.heap[D]? ∧ ¬ S' D ∧ ∀ b x c t, lookB h' b = some x → φ' b = some (c, t) → c ≠ D) : Marked n0 h' φ' S' w' ds := by
  obtain ⟨Ds, e, hn, hD⟩ := hm
  refine ⟨Ds, e, hn, fun D hd => ?_⟩
  obtain ⟨h1, h2, h3, h4⟩ := hD D hd
  obtain ⟨k1, k2, k3⟩ := hh D (Array.getElem?_eq_some_iff.1 h1).1 h2 h3 h4
  exact ⟨k1.trans h1, h2, k2, k3⟩

structure Rel (B : Base) (s : St) (φ : Ph) (S : Nat → Prop) (a : Act) (w : World) : Prop where
  env : ∀ t, RepV s.h φ S w (s.e t) (a.tmps.getD t undef)
  size : a.tmps.size = B.N
  hp : HpAt s.h φ S w
  nx : ∀ b x, lookB s.h b = some x → b < s.nx
  slt : ∀ b, S b → b < w.heap.size
  plt : ∀ b x c t, lookB s.h b = some x → φ b = some (c, t) → c < w.heap.size
  old : ∀ b x c t, lookB s.h b = some x → φ b = some (c, t) → B.w0.heap.size ≤ c ∨ B.G c
  s0 : ∀ b, B.S0 b → S b
  s1 : ∀ b, S b → b < B.w0.heap.size → B.S0 b ∨ B.G b
  below : Trod B.G B.w0 w
  ext : HpOn B.h0 B.φ0 s.h φ
  nx0 : mx B.h0 ≤ s.nx
  def0 : Marked B.n0 s.h φ S w a.defers

end Go.Proofs.YtpobbfhdkbnpmaaDoor.Lv
