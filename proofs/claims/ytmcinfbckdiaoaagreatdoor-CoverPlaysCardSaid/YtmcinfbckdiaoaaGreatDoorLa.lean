/- The abstract machine: values, states, what they say of a world, and that what is read stays as it was. The abstract machine: what the operations that only reckon or read come to, and that the model's come to the same. The abstract machine: the model's reading operations come to what the abstract ones say. The abstract machine: the operations that only reckon or read, all together. The abstract machine: slices, places, fields, and all operations that only reckon or read. The abstract machine: the operations that make memory or write it. The abstract machine: what a state says is still so behind a step that turns one block. The abstract machine: new variables, and stores. -/
import Derived.Test.YtmcinfbckdiaoaaGreatDoorProg
import Derived.WalkKit
import Derived.KernelRfl
import Derived.Orders
import Derived.Below
import Derived.Laws.StructEq
import Derived.ChangeKeysEq
set_option linter.unusedVariables false
set_option linter.unusedSimpArgs false
namespace Go.Proofs.YtmcinfbckdiaoaaGreatDoor.Lv
open Go Go.RowKit

/-- Abstract values. -/
inductive D where
  | int (k : IntKind) (n : Int)
  | bool (b : Bool)
  | str (s : List UInt8)
  | nilp | nils | nilm | nilf
  | agg (cs : List D)
  | ro (ag : Bool) (sz n : Nat) (f : Nat → D)
  | sl (b ver off n : Nat)
  | ad (b off : Nat)
  | el (b ver i fo : Nat)
  | vs (b off esz n : Nat)
  | ra (ag : Bool) (sz : Nat) (d : D) (fo : Nat)
  | fn (f : Nat) (cap : List D)
  | tup (ds : List D)
  | gl (g : Nat)
  | unk

inductive Blk where
  | var (ag : Bool) (sz : Nat) (d : D)
  | row (fz : Bool) (ver : Nat) (ag : Bool) (sz n : Nat) (f : Nat → D)

abbrev Hp := List (Nat × Blk)

def look {α : Type} (d : α) : List (Nat × α) → Nat → α
  | [], _ => d
  | (b, x) :: r, t => if t = b then x else look d r t
def lookB : Hp → Nat → Option Blk
  | [], _ => none
  | (b, x) :: r, t => if t = b then some x else lookB r t

/-- The cells at a place. -/
def At (w : World) (b o : Nat) (vs : List Value) : Prop := ∀ j x, vs[j]? = some x → w.cell? ⟨b, o + j, none⟩ = some x ∧ x.oneCell' = true
/-- A value as the cells that it takes; ag: is its type a struct or an array? -/
def Cells (ag : Bool) (x : Value) (vs : List Value) : Prop := if ag then x = .agg ⟨vs⟩ else vs = [x]

section
variable (S : Nat → Prop) (w : World)
mutual
/-- What a value says, of memory that stays as it is. -/
def Rep0 : D → Value → Prop
  | .int k n, v => v = .int k n
  | .bool b, v => v = .bool b
  | .str s, v => v = .string ⟨s.toArray⟩
  | .nilp, v => v = .pointer none
  | .nils, v => v = .slice none 0 0
  | .nilm, v => v = .map none
  | .nilf, v => v = .nilFunc
  | .agg cs, v => ∃ vs, v = .agg ⟨vs⟩ ∧ Rep0s cs vs
  | .ro ag sz n f, v => ∃ a cap, v = .slice a n cap ∧ n ≤ cap ∧ cap ≤ 9223372036854775807 ∧ (0 < n → ∃ b o, a = some ⟨b, o, none⟩ ∧ S b ∧
      ∀ i, i < n → ∃ x vs, vs.length = sz ∧ At w b (o + i * sz) vs ∧ Cells ag x vs ∧ Rep0 (f i) x)
  | .ra ag sz d fo, v => ∃ b o x vs, v = .pointer (some ⟨b, o + fo, none⟩) ∧ S b ∧ vs.length = sz ∧ At w b o vs ∧ Cells ag x vs ∧ Rep0 d x
  | .fn f cap, v => ∃ vs, v = .func (.func f) #[] ⟨vs⟩ ∧ Rep0s cap vs
  | .tup ds, v => ∃ vs, v = .tuple ⟨vs⟩ ∧ Rep0s ds vs
  | .gl g, v => v = .pointer (some ⟨g, 0, none⟩)
  | .sl .., _ | .ad .., _ | .el .., _ | .vs .., _ => False
  | .unk, _ => True
def Rep0s : List D → List Value → Prop
  | [], vs => vs = []
  | d :: ds, vs => ∃ v vs', vs = v :: vs' ∧ Rep0 d v ∧ Rep0s ds vs'
end
end

/-- Memory that is told to stay has stayed. -/
def Kept (S : Nat → Prop) (w w' : World) : Prop := ∀ b, S b → w'.heap[b]? = w.heap[b]?
theorem Kept.at {S : Nat → Prop} {w w' : World} (h : Kept S w w') {b o : Nat} (hb : S b) {vs : List Value} (ha : At w b o vs) : At w' b o vs :=
  fun j x hj => ⟨(World.cell?_of_block (w := w) (h b hb)).trans (ha j x hj).1, (ha j x hj).2⟩

section
variable {S S' : Nat → Prop} {w w' : World}
mutual
theorem Rep0.mono (hk : Kept S w w') (hs : ∀ b, S b → S' b) : ∀ (d : D) (v : Value), Rep0 S w d v → Rep0 S' w' d v
  | .int .., _, h | .bool .., _, h | .str .., _, h | .nilp, _, h | .nils, _, h | .nilm, _, h | .nilf, _, h | .gl .., _, h | .unk, _, h => by simp only [Rep0] at h ⊢ <;> exact h
  | .sl .., _, h | .ad .., _, h | .el .., _, h | .vs .., _, h => by simp [Rep0] at h
  | .agg cs, v, h => by
    simp only [Rep0] at h ⊢
    obtain ⟨vs, e, h⟩ := h
    exact ⟨vs, e, Rep0s.mono hk hs cs vs h⟩
  | .tup cs, v, h => by
    simp only [Rep0] at h ⊢
    obtain ⟨vs, e, h⟩ := h
    exact ⟨vs, e, Rep0s.mono hk hs cs vs h⟩
  | .fn f cs, v, h => by
    simp only [Rep0] at h ⊢
    obtain ⟨vs, e, h⟩ := h
    exact ⟨vs, e, Rep0s.mono hk hs cs vs h⟩
  | .ro ag sz n f, v, h => by
    simp only [Rep0] at h ⊢
    obtain ⟨a, cap, e, hn, hc, h⟩ := h
    refine ⟨a, cap, e, hn, hc, fun hp => ?_⟩
    obtain ⟨b, o, ea, hb, h⟩ := h hp
    refine ⟨b, o, ea, hs b hb, fun i hi => ?_⟩
    obtain ⟨x, vs, hl, hat, hce, hr⟩ := h i hi
    exact ⟨x, vs, hl, hk.at hb hat, hce, Rep0.mono hk hs (f i) x hr⟩
  | .ra ag sz d fo, v, h => by
    simp only [Rep0] at h ⊢
    obtain ⟨b, o, x, vs, e, hb, hl, hat, hce, hr⟩ := h
    exact ⟨b, o, x, vs, e, hs b hb, hl, hk.at hb hat, hce, Rep0.mono hk hs d x hr⟩
theorem Rep0s.mono (hk : Kept S w w') (hs : ∀ b, S b → S' b) : ∀ (ds : List D) (vs : List Value), Rep0s S w ds vs → Rep0s S' w' ds vs
  | [], vs, h => by simp only [Rep0s] at h ⊢; exact h
  | d :: ds, vs, h => by
    simp only [Rep0s] at h ⊢
    obtain ⟨v, vs', e, h1, h2⟩ := h
    exact ⟨v, vs', e, Rep0.mono hk hs d v h1, Rep0s.mono hk hs ds vs' h2⟩
end
end

/-- Where an own block lies, and how many elements it takes. -/
abbrev Ph := Nat → Option (Nat × Nat)

section
variable (H : Hp) (φ : Ph) (S : Nat → Prop) (w : World)
mutual
/-- What a value says, where it may lead to blocks of the call's own. -/
def RepV : D → Value → Prop
  | .agg cs, v => ∃ vs, v = .agg ⟨vs⟩ ∧ RepVs cs vs
  | .fn f cap, v => ∃ vs, v = .func (.func f) #[] ⟨vs⟩ ∧ RepVs cap vs
  | .tup ds, v => ∃ vs, v = .tuple ⟨vs⟩ ∧ RepVs ds vs
  | .sl b ver off n, v => ∃ fz ver' ag sz m f, lookB H b = some (.row fz ver' ag sz m f) ∧ ver ≤ ver' ∧ (ver = ver' → off + n ≤ m ∧ ∃ a cap, v = .slice a n cap ∧ n ≤ cap ∧ (φ b = none → a = none ∧ cap = 0) ∧
      ∀ c tot, φ b = some (c, tot) → off + cap = tot ∧ a.isSome = true ∧ (0 < cap → a = some ⟨c, off * sz, none⟩))
  | .ad b off, v => ∃ ag sz d c t, lookB H b = some (.var ag sz d) ∧ φ b = some (c, t) ∧ v = .pointer (some ⟨c, off, none⟩)
  | .el b ver i fo, v => ∃ fz ver' ag sz m f, lookB H b = some (.row fz ver' ag sz m f) ∧ ver ≤ ver' ∧ (ver = ver' → i < m ∧ ∃ c t, φ b = some (c, t) ∧ v = .pointer (some ⟨c, i * sz + fo, none⟩))
  | .vs b off esz n, v => ∃ ag sz d c t a cap, lookB H b = some (.var ag sz d) ∧ φ b = some (c, t) ∧ v = .slice a n cap ∧ n ≤ cap ∧ (0 < cap → a = some ⟨c, off, none⟩) ∧ a.isSome = true
  | d, v => Rep0 S w d v
def RepVs : List D → List Value → Prop
  | [], vs => vs = []
  | d :: ds, vs => ∃ v vs', vs = v :: vs' ∧ RepV d v ∧ RepVs ds vs'
end

/-- A block of the call's own, in the world. -/
def BlkAt (b : Nat) : Blk → Prop
  | .var ag sz d => ∃ c t, φ b = some (c, t) ∧ ¬ S c ∧ ∃ x vs e lo hi, w.heap[c]? = some (.cells ⟨vs⟩ e (lo, hi)) ∧ vs.length = sz ∧ ((∀ o, o < sz → ¬ (lo ≤ o ∧ o < hi)) ∧ ∀ y ∈ vs, y.oneCell' = true) ∧ Cells ag x vs ∧ RepV H φ S w d x
  | .row fz ver ag sz n f => (φ b = none → n = 0) ∧ ∀ c tot, φ b = some (c, tot) → (fz = false → ¬ S c) ∧ (fz = true → S c) ∧ tot ≤ 9223372036854775807 ∧ n ≤ tot ∧
      ∃ vs e lo hi, w.heap[c]? = some (.cells ⟨vs⟩ e (lo, hi)) ∧ vs.length = tot * sz ∧ ((∀ o, o < tot * sz → ¬ (lo ≤ o ∧ o < hi)) ∧ ∀ y ∈ vs, y.oneCell' = true) ∧
      ∀ i, i < n → ∃ x, Cells ag x ((vs.drop (i * sz)).take sz) ∧ Rep0 S w (f i) x
end

/-- The own blocks may have turned so. -/
def HpExt (H : Hp) (φ : Ph) (H' : Hp) (φ' : Ph) : Prop := ∀ b,
  (∀ ag sz d, lookB H b = some (.var ag sz d) → (∃ d', lookB H' b = some (.var ag sz d')) ∧ φ' b = φ b) ∧
  (∀ fz ver ag sz m f, lookB H b = some (.row fz ver ag sz m f) → ∃ fz' ver' m' f', lookB H' b = some (.row fz' ver' ag sz m' f') ∧ ver ≤ ver' ∧ (ver = ver' → m ≤ m' ∧ φ' b = φ b))
theorem HpExt.refl (H : Hp) (φ : Ph) : HpExt H φ H φ := fun b => ⟨fun ag sz d h => ⟨⟨d, h⟩, rfl⟩, fun fz ver ag sz m f h => ⟨fz, ver, m, f, h, Nat.le_refl _, fun _ => ⟨Nat.le_refl _, rfl⟩⟩⟩

theorem HpExt.trans {H H' H'' : Hp} {φ φ' φ'' : Ph} (h : HpExt H φ H' φ') (h' : HpExt H' φ' H'' φ'') : HpExt H φ H'' φ'' := fun b =>
  ⟨fun ag sz d e => by
    obtain ⟨⟨d1, e1⟩, p1⟩ := (h b).1 ag sz d e
    obtain ⟨⟨d2, e2⟩, p2⟩ := (h' b).1 ag sz d1 e1
    exact ⟨⟨d2, e2⟩, p2.trans p1⟩,
   fun fz ver ag sz m f e => by
    obtain ⟨fz1, ver1, m1, f1, e1, v1, p1⟩ := (h b).2 fz ver ag sz m f e
    obtain ⟨fz2, ver2, m2, f2, e2, v2, p2⟩ := (h' b).2 fz1 ver1 ag sz m1 f1 e1
    refine ⟨fz2, ver2, m2, f2, e2, Nat.le_trans v1 v2, fun e3 => ?_⟩
    have a1 := p1 (by omega)
    have a2 := p2 (by omega)
    exact ⟨Nat.le_trans a1.1 a2.1, a2.2.trans a1.2⟩⟩

/-- So have turned those that are still known. -/
def HpOn (H : Hp) (φ : Ph) (H' : Hp) (φ' : Ph) : Prop := ∀ b, (lookB H' b).isSome = true →
  (∀ ag sz d, lookB H b = some (.var ag sz d) → (∃ d', lookB H' b = some (.var ag sz d')) ∧ φ' b = φ b) ∧
  (∀ fz ver ag sz m f, lookB H b = some (.row fz ver ag sz m f) → ∃ fz' ver' m' f', lookB H' b = some (.row fz' ver' ag sz m' f') ∧ ver ≤ ver' ∧ (ver = ver' → m ≤ m' ∧ φ' b = φ b))
theorem HpOn.refl (H : Hp) (φ : Ph) : HpOn H φ H φ := fun b _ => HpExt.refl H φ b
theorem HpOn.trans {H H' H'' : Hp} {φ φ' φ'' : Ph} (h : HpOn H φ H' φ') (h' : HpExt H' φ' H'' φ'') (hn : ∀ b, (lookB H'' b).isSome = true → (lookB H' b).isSome = true ∨ lookB H b = none) : HpOn H φ H'' φ'' := fun b hb => by
  rcases hn b hb with hs | hn
  · refine ⟨fun ag sz d e => ?_, fun fz ver ag sz m f e => ?_⟩
    · obtain ⟨⟨d1, e1⟩, p1⟩ := (h b hs).1 ag sz d e
      obtain ⟨⟨d2, e2⟩, p2⟩ := (h' b).1 ag sz d1 e1
      exact ⟨⟨d2, e2⟩, p2.trans p1⟩
    · obtain ⟨fz1, ver1, m1, f1, e1, v1, p1⟩ := (h b hs).2 fz ver ag sz m f e
      obtain ⟨fz2, ver2, m2, f2, e2, v2, p2⟩ := (h' b).2 fz1 ver1 ag sz m1 f1 e1
      refine ⟨fz2, ver2, m2, f2, e2, Nat.le_trans v1 v2, fun e3 => ?_⟩
      have a1 := p1 (by omega)
      have a2 := p2 (by omega)
      exact ⟨Nat.le_trans a1.1 a2.1, a2.2.trans a1.2⟩
  · exact ⟨fun ag sz d e => (by rw [hn] at e; cases e), fun fz ver ag sz m f e => (by rw [hn] at e; cases e)⟩
def mx : Hp → Nat
  | [] => 0
  | (i, _) :: r => max (i + 1) (mx r)
theorem mx_lt : ∀ {h : Hp} {i : Nat} {y : Blk}, lookB h i = some y → i < mx h
  | (j, z) :: r, i, y, h => by
    simp only [lookB] at h
    simp only [mx]
    split at h
    · omega
    · have := mx_lt h; omega

section
variable {H H' : Hp} {φ φ' : Ph} {S S' : Nat → Prop} {w w' : World}
mutual
theorem Rep0.toV : ∀ (d : D) (v : Value), Rep0 S w d v → RepV H φ S w d v
  | .int .., _, h | .bool .., _, h | .str .., _, h | .nilp, _, h | .nils, _, h | .nilm, _, h | .nilf, _, h | .gl .., _, h | .unk, _, h | .ro .., _, h | .ra .., _, h => by simpa only [RepV] using h
  | .sl .., _, h | .ad .., _, h | .el .., _, h | .vs .., _, h => by simp only [Rep0] at h
  | .agg cs, v, h => by
    simp only [Rep0, RepV] at h ⊢
    obtain ⟨vs, e, h⟩ := h
    exact ⟨vs, e, Rep0s.toV cs vs h⟩
  | .tup cs, v, h => by
    simp only [Rep0, RepV] at h ⊢
    obtain ⟨vs, e, h⟩ := h
    exact ⟨vs, e, Rep0s.toV cs vs h⟩
  | .fn f cs, v, h => by
    simp only [Rep0, RepV] at h ⊢
    obtain ⟨vs, e, h⟩ := h
    exact ⟨vs, e, Rep0s.toV cs vs h⟩
theorem Rep0s.toV : ∀ (ds : List D) (vs : List Value), Rep0s S w ds vs → RepVs H φ S w ds vs
  | [], vs, h => by simpa only [Rep0s, RepVs] using h
  | d :: ds, vs, h => by
    simp only [Rep0s, RepVs] at h ⊢
    obtain ⟨v, vs', e, h1, h2⟩ := h
    exact ⟨v, vs', e, Rep0.toV d v h1, Rep0s.toV ds vs' h2⟩
end

mutual
theorem RepV.mono (hx : HpExt H φ H' φ') (hk : Kept S w w') (hs : ∀ b, S b → S' b) : ∀ (d : D) (v : Value), RepV H φ S w d v → RepV H' φ' S' w' d v
  | .int .., _, h | .bool .., _, h | .str .., _, h | .nilp, _, h | .nils, _, h | .nilm, _, h | .nilf, _, h | .gl .., _, h | .unk, _, h | .ro .., _, h | .ra .., _, h => by
    simp only [RepV] at h ⊢
    exact Rep0.mono hk hs _ _ h
  | .sl b ver off n, v, h => by
    simp only [RepV] at h ⊢
    obtain ⟨fz, ver', ag, sz, m, f, hl, hv, h⟩ := h
    obtain ⟨fz2, ver2, m2, f2, hl2, hv2, h2⟩ := (hx b).2 _ _ _ _ _ _ hl
    refine ⟨fz2, ver2, ag, sz, m2, f2, hl2, by omega, fun e => ?_⟩
    obtain ⟨h3, a, cap, e1, h4, h5, h6⟩ := h (by omega)
    obtain ⟨h7, h8⟩ := h2 (by omega)
    rw [h8]
    exact ⟨by omega, a, cap, e1, h4, h5, h6⟩
  | .ad b off, v, h => by
    simp only [RepV] at h ⊢
    obtain ⟨ag, sz, d, c, t, hl, hp, e⟩ := h
    obtain ⟨⟨d', h1⟩, h2⟩ := (hx b).1 _ _ _ hl
    exact ⟨ag, sz, d', c, t, h1, h2.trans hp, e⟩
  | .el b ver i fo, v, h => by
    simp only [RepV] at h ⊢
    obtain ⟨fz, ver', ag, sz, m, f, hl, hv, h⟩ := h
    obtain ⟨fz2, ver2, m2, f2, hl2, hv2, h2⟩ := (hx b).2 _ _ _ _ _ _ hl
    refine ⟨fz2, ver2, ag, sz, m2, f2, hl2, by omega, fun e => ?_⟩
    obtain ⟨h3, c, t, e1, h4⟩ := h (by omega)
    obtain ⟨h7, h8⟩ := h2 (by omega)
    exact ⟨by omega, c, t, h8.trans e1, h4⟩
  | .vs b off esz n, v, h => by
    simp only [RepV] at h ⊢
    obtain ⟨ag, sz, d, c, t, a, cap, hl, hp, e⟩ := h
    obtain ⟨⟨d', h1⟩, h2⟩ := (hx b).1 _ _ _ hl
    exact ⟨ag, sz, d', c, t, a, cap, h1, h2.trans hp, e⟩
  | .agg cs, v, h => by
    simp only [RepV] at h ⊢
    obtain ⟨vs, e, h⟩ := h
    exact ⟨vs, e, RepVs.mono hx hk hs cs vs h⟩
  | .tup cs, v, h => by
    simp only [RepV] at h ⊢
    obtain ⟨vs, e, h⟩ := h
    exact ⟨vs, e, RepVs.mono hx hk hs cs vs h⟩
  | .fn f cs, v, h => by
    simp only [RepV] at h ⊢
    obtain ⟨vs, e, h⟩ := h
    exact ⟨vs, e, RepVs.mono hx hk hs cs vs h⟩
theorem RepVs.mono (hx : HpExt H φ H' φ') (hk : Kept S w w') (hs : ∀ b, S b → S' b) : ∀ (ds : List D) (vs : List Value), RepVs H φ S w ds vs → RepVs H' φ' S' w' ds vs
  | [], vs, h => by simpa only [RepVs] using h
  | d :: ds, vs, h => by
    simp only [RepVs] at h ⊢
    obtain ⟨v, vs', e, h1, h2⟩ := h
    exact ⟨v, vs', e, RepV.mono hx hk hs d v h1, RepVs.mono hx hk hs ds vs' h2⟩
end
end

/-- The own blocks, as a whole. -/
structure HpAt (H : Hp) (φ : Ph) (S : Nat → Prop) (w : World) : Prop where
  blk : ∀ b x, lookB H b = some x → BlkAt H φ S w b x
  inj : ∀ b b' x x' c t t', lookB H b = some x → lookB H b' = some x' → φ b = some (c, t) → φ b' = some (c, t') → b = b'

structure St where
  e : Nat → D
  h : Hp
  nx : Nat

/-- What a call began with: the world, what stays, what it was given to write, the number of its slots. -/
structure Base where
  w0 : World
  S0 : Nat → Prop
  G : Nat → Prop
  N : Nat
  h0 : Hp
  φ0 : Ph
  /-- From here on marks lie. -/
  n0 : Nat
/-- Of what was there, only what was given has turned. -/
structure Trod (G : Nat → Prop) (w w' : World) : Prop where
  os : w'.os = w.os
  tape : w'.tape = w.tape
  output : w'.output = w.output
  size : w.heap.size ≤ w'.heap.size
  block : ∀ k, k < w.heap.size → ¬ G k → w'.heap[k]? = w.heap[k]?

/-- The marks that ranges over functions have left among the deferred calls. -/
def Marked (n0 : Nat) (h : Hp) (φ : Ph) (S : Nat → Prop) (w : World) (ds : List Deferred) : Prop :=
  ∃ Ds : List Nat, ds = Ds.map (fun D => ({ target := .collected D, args := #[] } : Deferred)) ∧ Ds.Nodup ∧
    ∀ D, D ∈ Ds → w.heap[D]? = some (.deferred (some [])) ∧ n0 ≤ D ∧ ¬ S D ∧ ∀ b x c t, lookB h b = some x → φ b = some (c, t) → c ≠ D
theorem Marked.nil (n0 : Nat) (h : Hp) (φ : Ph) (S : Nat → Prop) (w : World) : Marked n0 h φ S w [] := ⟨[], rfl, List.nodup_nil, fun D hD => by cases hD⟩
theorem Marked.move {n0 : Nat} {h h' : Hp} {φ φ' : Ph} {S S' : Nat → Prop} {w w' : World} {ds : List Deferred} (hm : Marked n0 h φ S w ds)
    (hh : ∀ D, D < w.heap.size → n0 ≤ D → ¬ S D → (∀ b x c t, lookB h b = some x → φ b = some (c, t) → c ≠ D) → w'.heap[D]? = w.heap[D]? ∧ ¬ S' D ∧ ∀ b x c t, lookB h' b = some x → φ' b = some (c, t) → c ≠ D) : Marked n0 h' φ' S' w' ds := by
  obtain ⟨Ds, e, hn, hD⟩ := hm
  refine ⟨Ds, e, hn, fun D hd => ?_⟩
  obtain ⟨h1, h2, h3, h4⟩ := hD D hd
  obtain ⟨k1, k2, k3⟩ := hh D (Array.getElem?_eq_some_iff.1 h1).1 h2 h3 h4
  exact ⟨k1.trans h1, h2, k2, k3⟩

structure Rel (B : Base) (s : St) (φ : Ph) (S : Nat → Prop) (a : Act) (w : World) : Prop where
  env : ∀ t, RepV s.h φ S w (s.e t) (a.tmps.getD t undef)
  size : a.tmps.size = B.N
  hp : HpAt s.h φ S w
  nx : ∀ b x, lookB s.h b = some x → b < s.nx
  slt : ∀ b, S b → b < w.heap.size
  plt : ∀ b x c t, lookB s.h b = some x → φ b = some (c, t) → c < w.heap.size
  old : ∀ b x c t, lookB s.h b = some x → φ b = some (c, t) → B.w0.heap.size ≤ c ∨ B.G c
  s0 : ∀ b, B.S0 b → S b
  s1 : ∀ b, S b → b < B.w0.heap.size → B.S0 b ∨ B.G b
  below : Trod B.G B.w0 w
  ext : HpOn B.h0 B.φ0 s.h φ
  nx0 : mx B.h0 ≤ s.nx
  def0 : Marked B.n0 s.h φ S w a.defers

end Go.Proofs.YtmcinfbckdiaoaaGreatDoor.Lv

set_option linter.unusedVariables false
set_option linter.unusedSimpArgs false
namespace Go.Proofs.YtmcinfbckdiaoaaGreatDoor.Lv
open Go Go.RowKit

inductive TK where
  | int (k : IntKind) | bool | string | slc (e : Nat) | arr (n e : Nat) | strct (fs : List (Nat × Nat)) | ptr (e : Nat) | map (k v : Nat) | fn | oth | bad
  deriving DecidableEq

structure TI where
  ag : Bool
  sz : Nat
  bytes : Nat
  k : TK
  hz : Bool
  zero : D
  /-- May two of them be compared, field by field? -/
  eqo : Bool

mutual
def ofVal : Value → D
  | .int k n => .int k n
  | .bool b => .bool b
  | .string s => .str s.data.toList
  | .pointer none => .nilp
  | .slice none n c => if n = 0 ∧ c = 0 then .nils else .unk
  | .map none => .nilm
  | .nilFunc => .nilf
  | .agg ⟨cs⟩ => .agg (ofVals cs)
  | _ => .unk
def ofVals : List Value → List D
  | [] => []
  | v :: vs => ofVal v :: ofVals vs
end

def tkOf : TypeDesc → TK
  | .int k => .int k
  | .bool => .bool
  | .string => .string
  | .slice e => .slc e
  | .array n e => .arr n e
  | .struct fs => .strct (fs.toList.map fun f => (f.offset, f.type))
  | .pointer e => .ptr e
  | .map k v => .map k v
  | .func .. => .fn
  | _ => .oth
def agOf : TypeDesc → Bool
  | .struct _ | .array _ _ => true
  | _ => false
def eqOk (P : Program) (t : Nat) (d : TypeDesc) : Bool := !(P.stoodInHeld t) && !(P.eqGuardType P.depth t) && match d with
  | .struct fs => fs.toList.all fun f => !(f.name == "_")
  | _ => true
def tiOf (P : Program) (t : Nat) : TI :=
  match P.info? t, P.underlying t with
  | some i, some d => ⟨agOf d, i.size, i.bytes, tkOf d, i.zero.isSome, (i.zero.map ofVal).getD .unk, agOf d && eqOk P t d⟩
  | _, _ => ⟨false, 0, 0, .bad, false, .unk, false⟩

/-- What is known of the program: its types, and what its variables hold. -/
structure Ctx where
  P : Program
  tt : Nat → TI
  gv : Nat → D
  htt : ∀ t, tt t = tiOf P t
  mixed : P.follows .mixedOrders = true
  /-- May a call of this function be given blocks? -/
  give : Nat → Bool

def ev (E : Ctx) (s : St) : Operand → D
  | .tmp t => s.e t
  | .const v => ofVal v
  | .global g => E.gv g
  | .func f => .fn f []

def asAgg : D → Option (List D)
  | .agg cs => some cs
  | _ => none
def cellsOf (ag : Bool) (d : D) : Option (List D) := if ag then asAgg d else some [d]
def part (ag : Bool) (off n : Nat) (cs : List D) : Option D :=
  if off + n ≤ cs.length then some (if ag then .agg ((cs.drop off).take n) else cs.getD off .unk) else none
def rd (ag : Bool) (n : Nat) (ag' : Bool) (sz : Nat) (d : D) (off : Nat) : Option D :=
  if ag && ag' && off == 0 && n == sz then some d else if ag || n == 1 then (cellsOf ag' d).bind (part ag off n) else none
/-- A load. -/
def ldd (h : Hp) (ag : Bool) (n : Nat) : D → Option D
  | .ad b off => match lookB h b with
    | some (.var ag' sz d) => rd ag n ag' sz d off
    | _ => none
  | .el b ver i fo => match lookB h b with
    | some (.row _ ver' ag' sz _ f) => if ver = ver' then rd ag n ag' sz (f i) fo else none
    | _ => none
  | .ra ag' sz d fo => rd ag n ag' sz d fo
  | _ => none
/-- Is it the row's newest state? -/
def cur (h : Hp) (b ver : Nat) : Bool := match lookB h b with
  | some (.row _ v _ _ _ _) => v == ver
  | _ => false
def grd (c : Prop) [Decidable c] (d : D) : Option D := if c then some d else none
/-- Bits. -/
def bits (k : IntKind) (op : BinOp) (a b : Int) : Int :=
  let x := BitVec.ofInt k.bits a
  let y := BitVec.ofInt k.bits b
  k.wrap (match op with | .and => x &&& y | .or => x ||| y | .xor => x ^^^ y | _ => x &&& ~~~y).toNat
def bin (k : TK) (op : BinOp) : D → D → Option D
  | .int k a, .int k' b => match op with
    | .shr => grd (0 ≤ b) (.int k (a.fdiv (2 ^ (min b.toNat k.bits))))
    | .shl => grd (0 ≤ b) (.int k (k.wrap (a * 2 ^ (min b.toNat k.bits))))
    | op => if k = k' then match op with
      | .add => some (.int k (k.wrap (a + b)))
      | .sub => some (.int k (k.wrap (a - b)))
      | .mul => some (.int k (k.wrap (a * b)))
      | .quo => grd (b ≠ 0) (.int k (k.wrap (a.tdiv b)))
      | .rem => grd (b ≠ 0) (.int k (a.tmod b))
      | .and | .or | .xor | .andNot => some (.int k (bits k op a b))
      | .eql => some (.bool (a == b))
      | .neq => some (.bool (a != b))
      | .lss => some (.bool (decide (a < b)))
      | .leq => some (.bool (decide (a ≤ b)))
      | .gtr => some (.bool (decide (a > b)))
      | .geq => some (.bool (decide (a ≥ b)))
      | _ => none else none
  | .bool a, .bool b => match k, op with
    | .bool, .eql => some (.bool (a == b))
    | .bool, .neq => some (.bool (!(a == b)))
    | _, _ => none
  | .str a, .str b => match op with
    | .eql => some (.bool (a == b))
    | .neq => some (.bool (!(a == b)))
    | .add => grd (a.length + b.length ≤ 9223372036854775807) (.str (a ++ b))
    | _ => none
  | .nilp, .nilp => match k, op with
    | .ptr _, .eql => some (.bool true)
    | .ptr _, .neq => some (.bool false)
    | _, _ => none
  | .ad .., .nilp | .nilp, .ad .. => match k, op with
    | .ptr _, .eql => some (.bool false)
    | .ptr _, .neq => some (.bool true)
    | _, _ => none
  | _, _ => none
def un (op : UnOp) : D → Option D
  | .int k n => match op with
    | .neg => some (.int k (k.wrap (0 - n)))
    | .xor => some (.int k (bits k .xor (if k.signed then -1 else k.max) n))
    | _ => none
  | .bool b => match op with
    | .not => some (.bool !b)
    | _ => none
  | _ => none
def lenD (h : Hp) : TK → D → Option D
  | .slc _, .ro _ _ n _ => some (.int .i64 n)
  | .slc _, .sl b ver _ n => match lookB h b with
    | some (.row _ ver' _ _ _ _) => if ver = ver' then some (.int .i64 n) else none
    | _ => none
  | .slc _, .nils => some (.int .i64 0)
  | .slc _, .vs _ _ _ n => some (.int .i64 n)
  | .string, .str s => some (.int .i64 s.length)
  | .arr n _, _ => some (.int .i64 n)
  | _, _ => none
/-- A slice's bounds: '(from, to)', 'n' being as far as it may go. -/
def bds (n : Nat) : Option D → Option D → Option (Int × Int)
  | none, none => some (0, n)
  | some (.int _ l), none => some (l, n)
  | none, some (.int _ h) => some (0, h)
  | some (.int _ l), some (.int _ h) => some (l, h)
  | _, _ => none
def cutD (x : D) (lo hi : Option D) : Option D := match x with
  | .str s => (bds s.length lo hi).bind fun p => grd (0 ≤ p.1 ∧ p.1 ≤ p.2 ∧ p.2 ≤ s.length) (.str ((s.take p.2.toNat).drop p.1.toNat))
  | .ro ag sz n f => (bds n lo hi).bind fun p => grd (0 ≤ p.1 ∧ p.1 ≤ p.2 ∧ p.2 ≤ n) (.ro ag sz (p.2.toNat - p.1.toNat) fun i => f (p.1.toNat + i))
  | .sl b ver off n => (bds n lo hi).bind fun p => grd (0 ≤ p.1 ∧ p.1 ≤ p.2 ∧ p.2 ≤ n) (.sl b ver (off + p.1.toNat) (p.2.toNat - p.1.toNat))
  | .nils => (bds 0 lo hi).bind fun p => grd (p.1 = 0 ∧ p.2 = 0) .nils
  | .vs b off esz n => (bds n lo hi).bind fun p => grd (0 ≤ p.1 ∧ p.1 ≤ p.2 ∧ p.2 ≤ n) (.vs b (off + p.1.toNat * esz) esz (p.2.toNat - p.1.toNat))
  | _ => none
def isU8 : D → Bool
  | .int .u8 _ => true
  | _ => false
def u8Of : D → UInt8
  | .int _ n => UInt8.ofNat n.toNat
  | _ => 0
def bstr (h : Hp) : D → Option D
  | .nils => some (.str [])
  | .ro _ _ n f => grd (∀ i, i < n → isU8 (f i) = true) (.str ((List.range n).map fun i => u8Of (f i)))
  | .sl b ver off n => match lookB h b with
    | some (.row _ ver' _ _ _ f) => if ver = ver' then grd (∀ i, i < n → isU8 (f (off + i)) = true) (.str ((List.range n).map fun i => u8Of (f (off + i)))) else none
    | _ => none
  | _ => none
def conv (E : Ctx) (h : Hp) (src t : Nat) (x : D) : Option D := if (E.tt src).k = .bad then none else match (E.tt t).k, x with
  | .int k, .int _ n => some (.int k (k.wrap n))
  | .string, .str s => some (.str s)
  | .string, x => match (E.tt src).k with
    | .slc e => match (E.tt e).k with
      | .int .u8 => bstr h x
      | _ => none
    | _ => none
  | _, _ => none
def mm (f : Int → Int → Int) : D → D → Option D
  | .int k a, .int _ b => some (.int k (f a b))
  | _, _ => none
/-- May it be one cell's value? -/
def one (h : Hp) : D → Bool
  | .agg _ | .tup _ | .unk => false
  | .sl b ver _ _ => cur h b ver
  | .el b ver _ _ => cur h b ver
  | _ => true
def fits (E : Ctx) (h : Hp) : List (Nat × D) → List (Nat × Nat) → Option (List (Nat × List D))
  | [], _ => some []
  | (i, d) :: r, ps => match ps[i]? with
    | none => none
    | some (off, t) => match cellsOf (E.tt t).ag d with
      | none => none
      | some cs => if cs.length = (E.tt t).sz ∧ ((E.tt t).ag || cs.all (one h)) = true then (fits E h r ps).map fun q => (off, cs) :: q else none
def over : List D → List (Nat × List D) → List D
  | cs, [] => cs
  | cs, (off, ds) :: r => over (cs.take off ++ ds ++ cs.drop (off + ds.length)) r

/-- Two values compared, part by part. -/
def eqL (tt : Nat → TI) (f : Nat → D → D → Option Bool) : List (Nat × Nat) → List D → List D → Option Bool
  | [], _, _ => some true
  | (off, t) :: r, xs, ys => if (tt t).sz ≠ 0 ∧ ((tt t).ag || (tt t).sz == 1) = true then (part (tt t).ag off (tt t).sz xs).bind fun a => (part (tt t).ag off (tt t).sz ys).bind fun b => (f t a b).bind fun p => (eqL tt f r xs ys).map fun q => p && q else none
def eqD (tt : Nat → TI) : Nat → Nat → D → D → Option Bool
  | 0, _, _, _ => none
  | d + 1, t, x, y => match (tt t).k, x, y with
    | .int _, .int k a, .int k' b => if k = k' then some (a == b) else none
    | .bool, .bool a, .bool b => some (a == b)
    | .string, .str a, .str b => some (a == b)
    | .strct fs, .agg xs, .agg ys => if (tt t).eqo = true then eqL tt (eqD tt d) fs xs ys else none
    | .arr n e, .agg xs, .agg ys => if (tt t).eqo = true ∧ (tt e).sz ≠ 0 then eqL tt (eqD tt d) ((List.range n).map fun i => (i * (tt e).sz, e)) xs ys else none
    | _, _, _ => none
def eqOr (E : Ctx) (op : BinOp) (t : Nat) : D → D → Option D
  | .agg xs, .agg ys => match op with
    | .eql => if (E.tt t).eqo = true then (eqD E.tt 4 t (.agg xs) (.agg ys)).map fun b => .bool b else none
    | .neq => if (E.tt t).eqo = true then (eqD E.tt 4 t (.agg xs) (.agg ys)).map fun b => .bool !b else none
    | _ => none
  | x, y => bin (E.tt t).k op x y

def nbad : TK → Bool
  | .bad => false
  | _ => true
/-- The operations that only reckon, or read. -/
def pv (E : Ctx) (s : St) : Op → Option D
  | .move x | .assign x => some (ev E s x)
  | .pick c a b => match ev E s c with
    | .bool x => some (if x then ev E s a else ev E s b)
    | _ => none
  | .load t a => match (E.tt t).k with
    | .bad => none
    | _ => ldd s.h (E.tt t).ag (E.tt t).sz (ev E s a)
  | .fieldAddr t a i => match (E.tt t).k with
    | .strct fs => match fs[i]? with
      | some (fo', ft) => if (E.tt ft).sz = 0 then none else match ev E s a with
        | .ad b off => some (.ad b (off + fo'))
        | .el b ver j fo => if cur s.h b ver then some (.el b ver j (fo + fo')) else none
        | .ra ag sz d fo => some (.ra ag sz d (fo + fo'))
        | _ => none
      | none => none
    | _ => none
  | .field t x i => match (E.tt t).k with
    | .strct fs => match fs[i]? with
      | some (fo, ft) => if (E.tt ft).sz ≠ 0 ∧ ((E.tt ft).ag || (E.tt ft).sz == 1) = true then (asAgg (ev E s x)).bind (part (E.tt ft).ag fo (E.tt ft).sz) else none
      | none => none
    | _ => none
  | .nilCheck x => match ev E s x with
    | .ad b o => some (.ad b o)
    | .el b v i o => if cur s.h b v then some (.el b v i o) else none
    | .ra a b c d => some (.ra a b c d)
    | _ => none
  | .binOp op t x y _ => eqOr E op t (ev E s x) (ev E s y)
  | .unOp op _ x => un op (ev E s x)
  | .convert src t x => conv E s.h src t (ev E s x)
  | .slice t x lo hi none => match (E.tt t).k with
    | .string => match ev E s x with
      | .str z => cutD (.str z) (lo.map (ev E s)) (hi.map (ev E s))
      | _ => none
    | .slc e => if (E.tt e).sz = 0 then none else match ev E s x with
      | .str z => none
      | x => match x with
        | .ro ag sz n f => if (E.tt e).sz = sz then cutD x (lo.map (ev E s)) (hi.map (ev E s)) else none
        | .sl b ver off n => match lookB s.h b with
          | some (.row _ ver' _ sz _ _) => if ver = ver' ∧ (E.tt e).sz = sz then cutD x (lo.map (ev E s)) (hi.map (ev E s)) else none
          | _ => none
        | .vs b off esz n => if (E.tt e).sz = esz then cutD x (lo.map (ev E s)) (hi.map (ev E s)) else none
        | x => cutD x (lo.map (ev E s)) (hi.map (ev E s))
    | .arr n e => match ev E s x, lo, hi with
      | .ad b off, none, none => if (E.tt e).sz = 0 then none else some (.vs b off (E.tt e).sz n)
      | _, _, _ => none
    | _ => none
  | .indexAddr t x i => match (E.tt t).k, ev E s x, ev E s i with
    | .slc e, .ro ag sz n f, .int _ i => if (E.tt e).sz = sz ∧ sz ≠ 0 then grd (0 ≤ i ∧ i < n) (.ra ag sz (f i.toNat) 0) else none
    | .slc e, .sl b ver off n, .int _ i => match lookB s.h b with
      | some (.row _ ver' _ sz _ _) => if ver = ver' ∧ (E.tt e).sz = sz ∧ sz ≠ 0 then grd (0 ≤ i ∧ i < n) (.el b ver (off + i.toNat) 0) else none
      | _ => none
    | .slc e, .vs b off esz n, .int _ i => if (E.tt e).sz = esz ∧ esz ≠ 0 then grd (0 ≤ i ∧ i < n) (.ad b (off + i.toNat * esz)) else none
    | .arr n e, .ad b off, .int _ i => if (E.tt e).sz = 0 then none else grd (0 ≤ i ∧ i < n) (.ad b (off + i.toNat * (E.tt e).sz))
    | .arr n e, .el b v j off, .int _ i => if (E.tt e).sz = 0 ∨ cur s.h b v = false then none else grd (0 ≤ i ∧ i < n) (.el b v j (off + i.toNat * (E.tt e).sz))
    | .arr n e, .ra ag sz d off, .int _ i => if (E.tt e).sz = 0 then none else grd (0 ≤ i ∧ i < n) (.ra ag sz d (off + i.toNat * (E.tt e).sz))
    | _, _, _ => none
  | .index t x i => match (E.tt t).k, ev E s x, ev E s i with
    | .arr n e, .agg cs, .int _ i => if (E.tt e).sz ≠ 0 ∧ ((E.tt e).ag || (E.tt e).sz == 1) = true then (part (E.tt e).ag (i.toNat * (E.tt e).sz) (E.tt e).sz cs).bind fun d => grd (0 ≤ i ∧ i < n) d else none
    | .string, .str z, .int _ i => grd (0 ≤ i ∧ i < z.length) (.int .u8 ((z.getD i.toNat 0).toNat : Int))
    | _, _, _ => none
  | .extract x i => match ev E s x with
    | .tup ds => ds[i]?
    | _ => none
  | .makeFunc (.func f) ⟨[]⟩ ⟨cap⟩ => some (.fn f (cap.map (ev E s)))
  | .build t ⟨ps⟩ => match (E.tt t).k, (E.tt t).zero with
    | .strct fs, .agg z => if (fs.all fun p => nbad (E.tt p.2).k) = false then none else (fits E s.h (ps.map fun p => (p.1, ev E s p.2)) fs).bind fun q => if q.all (fun x => decide (x.1 + x.2.length ≤ z.length)) then some (.agg (over z q)) else none
    | .arr n e, .agg z => if nbad (E.tt e).k = false then none else (fits E s.h (ps.map fun p => (p.1, ev E s p.2)) ((List.range n).map fun i => (i * (E.tt e).sz, e))).bind fun q => if q.all (fun x => decide (x.1 + x.2.length ≤ z.length)) then some (.agg (over z q)) else none
    | _, _ => none
  | .call { callee := .builtin .len, args := ⟨[x]⟩, argTypes := ⟨[t]⟩ } => lenD s.h (E.tt t).k (ev E s x)
  | .call { callee := .builtin .min, args := ⟨[x, y]⟩, .. } => mm min (ev E s x) (ev E s y)
  | .call { callee := .builtin .max, args := ⟨[x, y]⟩, .. } => mm max (ev E s x) (ev E s y)
  | _ => none

end Go.Proofs.YtmcinfbckdiaoaaGreatDoor.Lv

set_option linter.unusedVariables false
set_option linter.unusedSimpArgs false
namespace Go.Proofs.YtmcinfbckdiaoaaGreatDoor.Lv
open Go Go.RowKit

theorem ti_of {E : Ctx} {t : Nat} (h : (E.tt t).k ≠ .bad) : ∃ i d, E.P.info? t = some i ∧ E.P.underlying t = some d ∧ E.tt t = ⟨agOf d, i.size, i.bytes, tkOf d, i.zero.isSome, (i.zero.map ofVal).getD .unk, agOf d && eqOk E.P t d⟩ := by
  rw [E.htt] at h ⊢
  unfold tiOf at h ⊢
  cases h1 : E.P.info? t with
  | none => rw [h1] at h; exact absurd rfl h
  | some i =>
    cases h2 : E.P.underlying t with
    | none => rw [h1, h2] at h; exact absurd rfl h
    | some d => exact ⟨i, d, rfl, rfl, rfl⟩

section
variable {P : Program} {w : World}
theorem run_und {t : Nat} {d : TypeDesc} (h : P.underlying t = some d) : (underlying t).run P w = .ok d w := by simp [underlying, h]
theorem run_info {t : Nat} {i : TypeInfo} (h : P.info? t = some i) : (typeInfo t).run P w = .ok i w := by simp [typeInfo, h]
theorem run_size {t : Nat} {i : TypeInfo} (h : P.info? t = some i) : (sizeOf t).run P w = .ok i.size w := by simp [sizeOf, run_info h]
theorem run_agg {t : Nat} {d : TypeDesc} (h : P.underlying t = some d) : (isAgg t).run P w = .ok (agOf d) w := by
  unfold isAgg
  simp only [Sem.run_bind, run_und h, Result.andThen_ok]
  cases d <;> rfl
theorem add_at (b o n : Nat) : (⟨b, o, none⟩ : Addr).add n = ⟨b, o + n, none⟩ := by
  unfold Addr.add
  split <;> simp_all
theorem run_cells {b o n : Nat} {vs : List Value} (h : At w b o vs) (hl : vs.length = n) : (loadCells ⟨b, o, none⟩ n).run P w = .ok ⟨vs⟩ w := by
  subst hl
  exact run_loadCells_list w _ _ fun j v hj => by rw [add_at]; exact (h j v hj).1
theorem run_lv {t b o : Nat} {i : TypeInfo} {d : TypeDesc} {vs : List Value} (hi : P.info? t = some i) (hu : P.underlying t = some d) (h : At w b o vs) (hl : vs.length = i.size) (h1 : agOf d = false → i.size = 1) :
    ∃ x, (loadVar t ⟨b, o, none⟩).run P w = .ok x w ∧ Cells (agOf d) x vs := by
  unfold loadVar
  simp only [Sem.run_bind, run_agg hu, Result.andThen_ok]
  cases ha : agOf d with
  | true =>
    simp only [if_true, Sem.run_bind, run_size hi, Result.andThen_ok, run_cells h hl, Sem.run_pure]
    exact ⟨_, rfl, rfl⟩
  | false =>
    obtain ⟨x, rfl⟩ : ∃ x, vs = [x] := by
      match vs, hl.trans (h1 ha) with
      | [x], _ => exact ⟨x, rfl⟩
    have := (h 0 x rfl).1
    simp only [Nat.add_zero] at this
    refine ⟨x, ?_, rfl⟩
    simp [this]
end

section
variable {H : Hp} {φ : Ph} {S : Nat → Prop} {w : World}
theorem RepVs.length : ∀ {ds : List D} {vs : List Value}, RepVs H φ S w ds vs → vs.length = ds.length
  | [], vs, h => by simp only [RepVs] at h; simp [h]
  | d :: ds, vs, h => by
    simp only [RepVs] at h
    obtain ⟨v, vs', rfl, _, h⟩ := h
    simp [RepVs.length h]
theorem RepVs.drop : ∀ {ds : List D} {vs : List Value} (n : Nat), RepVs H φ S w ds vs → RepVs H φ S w (ds.drop n) (vs.drop n)
  | ds, vs, 0, h => by simpa using h
  | [], vs, n + 1, h => by simp only [RepVs] at h; simp [h, RepVs]
  | d :: ds, vs, n + 1, h => by
    simp only [RepVs] at h
    obtain ⟨v, vs', rfl, _, h⟩ := h
    simpa using RepVs.drop n h
theorem RepVs.take : ∀ {ds : List D} {vs : List Value} (n : Nat), RepVs H φ S w ds vs → RepVs H φ S w (ds.take n) (vs.take n)
  | ds, vs, 0, h => by simp [RepVs]
  | [], vs, n + 1, h => by simp only [RepVs] at h; simp [h, RepVs]
  | d :: ds, vs, n + 1, h => by
    simp only [RepVs] at h
    obtain ⟨v, vs', rfl, h1, h⟩ := h
    simp only [List.take_succ_cons, RepVs]
    exact ⟨v, _, rfl, h1, RepVs.take n h⟩
theorem RepVs.append : ∀ {ds es : List D} {vs us : List Value}, RepVs H φ S w ds vs → RepVs H φ S w es us → RepVs H φ S w (ds ++ es) (vs ++ us)
  | [], es, vs, us, h, h2 => by simp only [RepVs] at h; simpa [h] using h2
  | d :: ds, es, vs, us, h, h2 => by
    simp only [RepVs] at h
    obtain ⟨v, vs', rfl, h1, h⟩ := h
    exact ⟨v, vs' ++ us, rfl, h1, RepVs.append h h2⟩
theorem RepVs.get : ∀ {ds : List D} {vs : List Value} (n : Nat) {d : D}, RepVs H φ S w ds vs → ds[n]? = some d → ∃ v, vs[n]? = some v ∧ RepV H φ S w d v
  | [], vs, n, d, h, e => by simp at e
  | d :: ds, vs, 0, d', h, e => by
    simp only [RepVs] at h
    obtain ⟨v, vs', rfl, h1, h⟩ := h
    simp only [List.getElem?_cons_zero, Option.some.injEq] at e ⊢
    exact ⟨v, rfl, e ▸ h1⟩
  | d :: ds, vs, n + 1, d', h, e => by
    simp only [RepVs] at h
    obtain ⟨v, vs', rfl, h1, h⟩ := h
    simpa using RepVs.get n h (by simpa using e)

theorem cells_rep {ag : Bool} {x : Value} {vs : List Value} {d : D} {cs : List D} (hc : Cells ag x vs) (hr : RepV H φ S w d x) (h : cellsOf ag d = some cs) : RepVs H φ S w cs vs := by
  unfold cellsOf at h
  cases ag with
  | true =>
    simp only [if_true] at h
    cases d <;> simp only [asAgg, Option.some.injEq, reduceCtorEq] at h
    subst h
    simp only [RepV] at hr
    obtain ⟨us, rfl, hr⟩ := hr
    simp only [Cells, if_true, Value.agg.injEq, Array.mk.injEq] at hc
    exact hc ▸ hr
  | false =>
    simp only [Bool.false_eq_true, if_false, Option.some.injEq] at h
    subst h
    simp only [Cells, Bool.false_eq_true, if_false] at hc
    exact ⟨x, [], hc, hr, rfl⟩

/-- Out of a whole's cells: a part. -/
theorem part_rep {ag : Bool} {off n : Nat} {cs : List D} {vs : List Value} {d : D} (h : RepVs H φ S w cs vs) (hp : part ag off n cs = some d) (h1 : ag = false → n = 1) :
    off + n ≤ vs.length ∧ ∃ x, Cells ag x ((vs.drop off).take n) ∧ RepV H φ S w d x := by
  unfold part at hp
  split at hp
  · rename_i hle
    refine ⟨by rw [h.length]; exact hle, ?_⟩
    simp only [Option.some.injEq] at hp
    subst hp
    cases ag with
    | true =>
      refine ⟨.agg ⟨(vs.drop off).take n⟩, rfl, ?_⟩
      simp only [if_true, RepV]
      exact ⟨_, rfl, (h.drop off).take n⟩
    | false =>
      obtain rfl := h1 rfl
      have hlt : off < cs.length := by omega
      obtain ⟨v, hv, hr⟩ := h.get off (d := cs.getD off .unk) (by simp [List.getD, List.getElem?_eq_getElem hlt])
      refine ⟨v, ?_, by simpa using hr⟩
      simp only [Cells, Bool.false_eq_true, if_false]
      have : off < vs.length := by rw [h.length]; exact hlt
      rw [List.getElem?_eq_getElem this] at hv
      simp only [Option.some.injEq] at hv
      rw [List.drop_eq_getElem_cons this, hv]
      simp
  · cases hp

theorem rd_rep {ag ag' : Bool} {n sz off : Nat} {d d' : D} {x : Value} {vs : List Value} (hl : vs.length = sz) (hc : Cells ag' x vs) (hr : RepV H φ S w d x) (h : rd ag n ag' sz d off = some d') :
    off + n ≤ vs.length ∧ (ag = false → n = 1) ∧ ∃ y, Cells ag y ((vs.drop off).take n) ∧ RepV H φ S w d' y := by
  unfold rd at h
  split at h
  · rename_i hw
    simp only [Bool.and_eq_true, beq_iff_eq] at hw
    obtain ⟨⟨⟨rfl, rfl⟩, rfl⟩, rfl⟩ := hw
    simp only [Option.some.injEq] at h
    subst h
    refine ⟨by omega, by simp, x, ?_, hr⟩
    simp only [List.drop_zero]
    rw [List.take_of_length_le (by omega)]
    exact hc
  · split at h
    · rename_i h1
      have h1' : ag = false → n = 1 := fun e => by simpa [e] using h1
      cases hcs : cellsOf ag' d with
      | none => rw [hcs] at h; cases h
      | some cs =>
        rw [hcs] at h
        obtain ⟨p1, p2⟩ := part_rep (cells_rep hc hr hcs) h h1'
        exact ⟨p1, h1', p2⟩
    · cases h

theorem At.part {b o : Nat} {vs : List Value} (h : At w b o vs) (off n : Nat) : At w b (o + off) ((vs.drop off).take n) := fun j x hj => by
  have h2 : vs[off + j]? = some x := by
    rw [List.getElem?_take] at hj
    split at hj
    · rwa [List.getElem?_drop] at hj
    · cases hj
  have := h (off + j) x h2
  rwa [← Nat.add_assoc] at this
theorem At.of_heap {c : Nat} {vs : List Value} {e : TypeId} {fr : Nat × Nat} (h : w.heap[c]? = some (.cells ⟨vs⟩ e fr)) (h1 : ∀ y ∈ vs, y.oneCell' = true) : At w c 0 vs := fun j x hj => by
  refine ⟨?_, h1 x (List.mem_of_getElem? hj)⟩
  simp only [World.cell?, h]
  simpa using hj
end

/-- A load. -/
theorem ldd_sound {E : Ctx} {H : Hp} {φ : Ph} {S : Nat → Prop} {w : World} (hp : HpAt H φ S w) {t : Nat} (ht : (E.tt t).k ≠ .bad) {p : D} {v : Value} (hr : RepV H φ S w p v) {d : D}
    (h : ldd H (E.tt t).ag (E.tt t).sz p = some d) : ∃ x, (Instr.loadAt t v).run E.P w = .ok x w ∧ RepV H φ S w d x := by
  obtain ⟨i, ds, hi, hu, he⟩ := ti_of ht
  rw [he] at h
  simp only at h
  have fin : ∀ {b o : Nat} {us : List Value} {y : Value}, At w b o us → us.length = i.size → (agOf ds = false → i.size = 1) → v = .pointer (some ⟨b, o, none⟩) → Cells (agOf ds) y us → RepV H φ S w d y →
      ∃ x, (Instr.loadAt t v).run E.P w = .ok x w ∧ RepV H φ S w d x := by
    intro b o us y h1 h2 h3 h4 h5 h6
    subst h4
    obtain ⟨x, hx, hc⟩ := run_lv hi hu h1 h2 h3
    refine ⟨x, by simpa [Instr.loadAt, Instr.sureAddr] using hx, ?_⟩
    have : x = y := by
      unfold Cells at hc h5
      cases ha : agOf ds <;> rw [ha] at hc h5 <;> simp_all
    exact this ▸ h6
  unfold ldd at h
  split at h
  · rename_i b off
    simp only [RepV] at hr
    obtain ⟨ag', sz, d0, c, tt, hl, hph, hv⟩ := hr
    rw [hl] at h
    simp only at h
    obtain ⟨c', t', hph', hns, x, vs, e, lo, hi', hheap, hlen, ⟨_, h1c⟩, hcells, hrep⟩ := hp.blk b _ hl
    rw [hph] at hph'
    simp only [Option.some.injEq, Prod.mk.injEq] at hph'
    obtain ⟨rfl, rfl⟩ := hph'
    obtain ⟨h1, h2, y, h3, h4⟩ := rd_rep hlen hcells hrep h
    exact fin (b := c) (o := off) (by simpa using (At.of_heap hheap h1c).part off i.size) (by simp; omega) h2 hv h3 h4
  · rename_i b ver j fo
    simp only [RepV] at hr
    obtain ⟨fz, ver', ag', sz, m, f, hl, hv, hr⟩ := hr
    rw [hl] at h
    simp only at h
    split at h
    · rename_i hver
      obtain ⟨hj, c, tt, hph, hv⟩ := hr hver
      obtain ⟨_, _, htot, hn, vs, e, lo, hi', hheap, hlen, ⟨_, h1c⟩, hels⟩ := (hp.blk b _ hl).2 c tt hph
      obtain ⟨x, hcells, hrep⟩ := hels j hj
      have hle : j * sz + sz ≤ vs.length := by
        rw [hlen]
        calc j * sz + sz = (j + 1) * sz := by rw [Nat.add_mul]; omega
          _ ≤ tt * sz := Nat.mul_le_mul_right _ (by omega)
      obtain ⟨h1, h2, y, h3, h4⟩ := rd_rep (by simp; omega) hcells (Rep0.toV _ _ hrep) h
      have hat := ((At.of_heap hheap h1c).part (j * sz) sz).part fo i.size
      refine fin (b := c) (o := j * sz + fo) (by simpa using hat) ?_ h2 hv h3 h4
      rw [List.length_take, List.length_drop]
      simp only [List.length_take, List.length_drop] at h1
      simp only [List.length_take, List.length_drop]
      omega
    · cases h
  · rename_i ag' sz d0 fo
    simp only [RepV, Rep0] at hr
    obtain ⟨b, o, x, vs, hv, hb, hlen, hat, hcells, hrep⟩ := hr
    obtain ⟨h1, h2, y, h3, h4⟩ := rd_rep hlen hcells (Rep0.toV _ _ hrep) h
    refine fin (b := b) (o := o + fo) (hat.part fo i.size) (by simp; omega) h2 hv h3 h4
  · cases h

end Go.Proofs.YtmcinfbckdiaoaaGreatDoor.Lv

set_option linter.unusedVariables false
set_option linter.unusedSimpArgs false
namespace Go.Proofs.YtmcinfbckdiaoaaGreatDoor.Lv
open Go Go.RowKit

section
variable {H : Hp} {φ : Ph} {S : Nat → Prop} {w : World}
mutual
theorem ofVal_rep : ∀ v : Value, Rep0 S w (ofVal v) v
  | .int .. | .bool .. | .pointer none | .map none | .nilFunc => by simp [ofVal, Rep0]
  | .string s => by simp [ofVal, Rep0]
  | .slice none n c => by
    unfold ofVal
    split
    · rename_i h; obtain ⟨rfl, rfl⟩ := h; simp [Rep0]
    · simp [Rep0]
  | .agg ⟨cs⟩ => by simp only [ofVal, Rep0]; exact ⟨cs, rfl, ofVals_rep cs⟩
  | .float .. | .complex .. | .pointer (some _) | .slice (some _) .. | .map (some _) | .chan _ | .func .. | .iface .. | .nilIface | .tuple _ => by simp [ofVal, Rep0]
theorem ofVals_rep : ∀ vs : List Value, Rep0s S w (ofVals vs) vs
  | [] => by simp [ofVals, Rep0s]
  | v :: vs => by simp only [ofVals, Rep0s]; exact ⟨v, vs, rfl, ofVal_rep v, ofVals_rep vs⟩
end

theorem eqIn_bool {P : Program} (d : Nat) {t : Nat} (a b : Bool) (hu : P.underlying t = some .bool) : (Op.equalIn (d + 1) t (.bool a) (.bool b)).run P w = .ok (a == b) w := by
  unfold Op.equalIn
  simp only [Sem.run_bind, run_und hu, Result.andThen_ok, Sem.run_pure]
theorem eqIn_nn {P : Program} (d : Nat) {t e : Nat} (hu : P.underlying t = some (.pointer e)) : (Op.equalIn (d + 1) t (.pointer none) (.pointer none)).run P w = .ok true w := by
  unfold Op.equalIn
  simp only [Sem.run_bind, run_und hu, Result.andThen_ok, Sem.run_pure, Option.isNone_none]
theorem eqIn_ns {P : Program} (d : Nat) {t e : Nat} (a : Addr) (hu : P.underlying t = some (.pointer e)) : (Op.equalIn (d + 1) t (.pointer none) (.pointer (some a))).run P w = .ok false w := by
  unfold Op.equalIn
  simp only [Sem.run_bind, run_und hu, Result.andThen_ok, Sem.run_pure, Option.isNone_some]
theorem eqIn_sn {P : Program} (d : Nat) {t e : Nat} (a : Addr) (hu : P.underlying t = some (.pointer e)) : (Op.equalIn (d + 1) t (.pointer (some a)) (.pointer none)).run P w = .ok false w := by
  unfold Op.equalIn
  simp only [Sem.run_bind, run_und hu, Result.andThen_ok, Sem.run_pure]
theorem run_eq {P : Program} {t : Nat} {x y : Value} {b : Bool} (h : (Op.equalIn (9999 + 1) t x y).run P w = .ok b w) : (Op.equal t x y).run P w = .ok b w := h

theorem bin_sound {E : Ctx} {op : BinOp} {t : Nat} {xo yo : Operand} {x y : Value} {dx dy d : D} (hx : RepV H φ S w dx x) (hy : RepV H φ S w dy y) (h : bin (E.tt t).k op dx dy = some d) :
    ∃ v, (do eqGuard op t xo yo x y; binOp op t x y : Sem Value).run E.P w = .ok v w ∧ RepV H φ S w d v := by
  have hg : ∀ (x y : Value), (∀ z, x ≠ .agg z) → x ≠ .nilIface → (eqGuard op t xo yo x y).run E.P w = .ok () w := by
    intro x y h1 h2
    unfold eqGuard
    cases op <;> simp <;> cases x <;> first | rfl | (exfalso; exact h1 _ rfl) | (exfalso; exact h2 rfl) | (cases y <;> rfl)
  unfold bin at h
  split at h
  · rename_i k a k' b
    simp only [RepV, Rep0] at hx hy
    subst hx hy
    simp only [Sem.run_bind, hg (.int k a) (.int k' b) (by simp) (by simp), Result.andThen_ok]
    cases op <;> simp only [binOp, Op.shift, Op.intArith, Op.intDiv, Op.intBits, Op.intCmp, grd] at h ⊢ <;> (repeat' split at h) <;>
      simp_all [bits, RepV, Rep0] <;> (subst h) <;> simp [RepV, Rep0] <;> omega
  · rename_i a b
    simp only [RepV, Rep0] at hx hy
    subst hx hy
    simp only [Sem.run_bind, hg (.bool a) (.bool b) (by simp) (by simp), Result.andThen_ok]
    split at h
    all_goals first | cases h | skip
    all_goals
      rename_i hk
      obtain ⟨i, ds, hi, hu, he⟩ := ti_of (E := E) (t := t) (by rw [hk]; simp)
      rw [he] at hk
      simp only at hk
      cases ds <;> simp only [tkOf, reduceCtorEq] at hk
      simp only [binOp, Sem.run_bind, run_eq (eqIn_bool 9999 a b hu), Result.andThen_ok, Sem.run_pure]
      exact ⟨_, rfl, by simp [RepV, Rep0]⟩
  · rename_i a b
    simp only [RepV, Rep0] at hx hy
    subst hx hy
    simp only [Sem.run_bind, hg (.string _) (.string _) (by simp) (by simp), Result.andThen_ok]
    split at h <;> simp only [grd, Option.some.injEq, reduceCtorEq] at h
    · subst h
      refine ⟨.bool (a == b), ?_, by simp [RepV, Rep0]⟩
      simp [binOp, Op.stringOp, ByteArray.toList_eq]
    · subst h
      refine ⟨.bool (!(a == b)), ?_, by simp [RepV, Rep0]⟩
      simp [binOp, Op.stringOp, ByteArray.toList_eq]
    · split at h
      · rename_i hl
        simp only [Option.some.injEq] at h
        subst h
        refine ⟨.string ⟨(a ++ b).toArray⟩, ?_, by simp [RepV, Rep0]⟩
        have hl' : ¬ ((((a.length + b.length : Nat) : Int)) > IntKind.max .i64) := by
          simp only [IntKind.max, IntKind.signed, IntKind.bits, if_true]
          omega
        have he : (⟨a.toArray⟩ : ByteArray) ++ ⟨b.toArray⟩ = ⟨(a ++ b).toArray⟩ := by
          apply ByteArray.ext
          simp [ByteArray.data_append]
        simp only [binOp, Op.stringOp, ByteArray.size, List.size_toArray, if_neg hl', Sem.run_pure, he]
      · cases h
  all_goals first | cases h | skip
  · simp only [RepV, Rep0] at hx hy
    subst hx hy
    simp only [Sem.run_bind, hg (.pointer _) (.pointer _) (by simp) (by simp), Result.andThen_ok]
    split at h
    all_goals first | cases h | skip
    all_goals
      rename_i hk
      obtain ⟨i, ds, hi, hu, he⟩ := ti_of (E := E) (t := t) (by rw [hk]; simp)
      rw [he] at hk
      simp only at hk
      cases ds <;> simp only [tkOf, reduceCtorEq] at hk
      simp only [binOp, Sem.run_bind, run_eq (eqIn_nn 9999 hu), Result.andThen_ok, Sem.run_pure]
      exact ⟨_, rfl, by simp [RepV, Rep0]⟩
  · simp only [RepV, Rep0] at hx hy
    obtain ⟨ag, sz, d0, c, tt, _, _, hx⟩ := hx
    subst hx hy
    simp only [Sem.run_bind, hg (.pointer _) (.pointer _) (by simp) (by simp), Result.andThen_ok]
    split at h
    all_goals first | cases h | skip
    all_goals
      rename_i hk
      obtain ⟨i, ds, hi, hu, he⟩ := ti_of (E := E) (t := t) (by rw [hk]; simp)
      rw [he] at hk
      simp only at hk
      cases ds <;> simp only [tkOf, reduceCtorEq] at hk
      simp only [binOp, Sem.run_bind, run_eq (eqIn_sn 9999 _ hu), Result.andThen_ok, Sem.run_pure]
      exact ⟨_, rfl, by simp [RepV, Rep0]⟩
  · simp only [RepV, Rep0] at hx hy
    obtain ⟨ag, sz, d0, c, tt, _, _, hy⟩ := hy
    subst hx hy
    simp only [Sem.run_bind, hg (.pointer _) (.pointer _) (by simp) (by simp), Result.andThen_ok]
    split at h
    all_goals first | cases h | skip
    all_goals
      rename_i hk
      obtain ⟨i, ds, hi, hu, he⟩ := ti_of (E := E) (t := t) (by rw [hk]; simp)
      rw [he] at hk
      simp only at hk
      cases ds <;> simp only [tkOf, reduceCtorEq] at hk
      simp only [binOp, Sem.run_bind, run_eq (eqIn_ns 9999 _ hu), Result.andThen_ok, Sem.run_pure]
      exact ⟨_, rfl, by simp [RepV, Rep0]⟩

theorem un_sound {E : Ctx} {op : UnOp} {x : Value} {dx d : D} (hx : RepV H φ S w dx x) (h : un op dx = some d) : ∃ v, (Op.unary op x).run E.P w = .ok v w ∧ RepV H φ S w d v := by
  unfold un at h
  split at h
  · rename_i k n
    simp only [RepV, Rep0] at hx
    subst hx
    cases op <;> simp only [Option.some.injEq, reduceCtorEq] at h <;> subst h <;> simp [Op.unary, Op.intArith, Op.intBits, bits, RepV, Rep0]
  · simp only [RepV, Rep0] at hx
    subst hx
    cases op <;> simp only [Option.some.injEq, reduceCtorEq] at h <;> subst h <;> simp [Op.unary, RepV, Rep0]
  · cases h

theorem kind_of {E : Ctx} {t : Nat} {k : TK} (h : (E.tt t).k = k) (hb : k ≠ .bad) : ∃ i d, E.P.info? t = some i ∧ E.P.underlying t = some d ∧ tkOf d = k ∧ (E.tt t).ag = agOf d ∧ (E.tt t).sz = i.size := by
  obtain ⟨i, d, h1, h2, h3⟩ := ti_of (E := E) (t := t) (by rw [h]; exact hb)
  refine ⟨i, d, h1, h2, ?_, ?_, ?_⟩
  · rw [h3] at h; exact h
  · rw [h3]
  · rw [h3]
theorem und_slc {E : Ctx} {t e : Nat} (h : (E.tt t).k = .slc e) : E.P.underlying t = some (.slice e) := by
  obtain ⟨i, d, h1, h2, h3, _⟩ := kind_of h (by simp)
  cases d <;> simp [tkOf] at h3
  exact h3 ▸ h2
theorem und_str {E : Ctx} {t : Nat} (h : (E.tt t).k = .string) : E.P.underlying t = some .string := by
  obtain ⟨i, d, h1, h2, h3, _⟩ := kind_of h (by simp)
  cases d <;> simp [tkOf] at h3
  exact h2
theorem und_arr {E : Ctx} {t n e : Nat} (h : (E.tt t).k = .arr n e) : E.P.underlying t = some (.array n e) := by
  obtain ⟨i, d, h1, h2, h3, _⟩ := kind_of h (by simp)
  cases d <;> simp [tkOf] at h3
  obtain ⟨rfl, rfl⟩ := h3
  exact h2
theorem und_int {E : Ctx} {t : Nat} {k : IntKind} (h : (E.tt t).k = .int k) : E.P.underlying t = some (.int k) := by
  obtain ⟨i, d, h1, h2, h3, _⟩ := kind_of h (by simp)
  cases d <;> simp [tkOf] at h3
  exact h3 ▸ h2
theorem und_strct {E : Ctx} {t : Nat} {fs : List (Nat × Nat)} (h : (E.tt t).k = .strct fs) : ∃ F : Array Field, E.P.underlying t = some (.struct F) ∧ fs = F.toList.map fun f => (f.offset, f.type) := by
  obtain ⟨i, d, h1, h2, h3, _⟩ := kind_of h (by simp)
  cases d <;> simp [tkOf] at h3
  exact ⟨_, h2, h3.symm⟩
/-- A type's size, where it is not 0. -/
theorem sz_of {E : Ctx} {t : Nat} (h : (E.tt t).sz ≠ 0) : ∃ i d, E.P.info? t = some i ∧ E.P.underlying t = some d ∧ (E.tt t).sz = i.size ∧ (E.tt t).ag = agOf d := by
  have hk : (E.tt t).k ≠ .bad := by
    intro e
    apply h
    rw [E.htt] at e ⊢
    unfold tiOf at e ⊢
    split at e
    · rename_i d _ _; cases d <;> simp [tkOf] at e
    · rfl
  obtain ⟨i, d, h1, h2, h3⟩ := ti_of hk
  exact ⟨i, d, h1, h2, by rw [h3], by rw [h3]⟩

theorem len_sound {E : Ctx} {t : Nat} {ty : TypeId} {x : Value} {dx d : D} (hx : RepV H φ S w dx x) (h : lenD H (E.tt t).k dx = some d) :
    ∃ v, (Builtin.len_ #[t] ty #[x]).run E.P w = .ok v w ∧ RepV H φ S w d v := by
  have e0 : (#[t] : Array TypeId)[0]? = some t := rfl
  have e1 : (#[x] : Array Value)[0]? = some x := rfl
  unfold lenD at h
  unfold Builtin.len_
  simp only [e0, e1, Sem.run_bind]
  split at h
  · rename_i hk
    simp only [RepV, Rep0] at hx
    obtain ⟨a, cap, rfl, _⟩ := hx
    simp only [Option.some.injEq] at h
    subst h
    simp only [run_und (und_slc hk), Result.andThen_ok, Sem.run_pure]
    exact ⟨_, rfl, by simp [RepV, Rep0, goInt]⟩
  · rename_i hk
    simp only [RepV] at hx
    obtain ⟨fz, ver', ag, sz, m, f, hl, hv, hr⟩ := hx
    rw [hl] at h
    simp only at h
    split at h
    · rename_i hver
      obtain ⟨_, a, cap, rfl, _⟩ := hr hver
      simp only [Option.some.injEq] at h
      subst h
      simp only [run_und (und_slc hk), Result.andThen_ok, Sem.run_pure]
      exact ⟨_, rfl, by simp [RepV, Rep0, goInt]⟩
    · cases h
  · rename_i hk
    simp only [RepV, Rep0] at hx
    subst hx
    simp only [Option.some.injEq] at h
    subst h
    simp only [run_und (und_slc hk), Result.andThen_ok, Sem.run_pure]
    exact ⟨_, rfl, by simp [RepV, Rep0, goInt]⟩
  · rename_i hk
    simp only [RepV] at hx
    obtain ⟨_, _, _, _, _, a, cap, _, _, rfl, _⟩ := hx
    simp only [Option.some.injEq] at h
    subst h
    simp only [run_und (und_slc hk), Result.andThen_ok, Sem.run_pure]
    exact ⟨_, rfl, by simp [RepV, Rep0, goInt]⟩
  · rename_i hk
    simp only [RepV, Rep0] at hx
    subst hx
    simp only [Option.some.injEq] at h
    subst h
    simp only [run_und (und_str hk), Result.andThen_ok, Sem.run_pure]
    exact ⟨_, rfl, by simp [RepV, Rep0, goInt, ByteArray.size]⟩
  · rename_i hk
    simp only [Option.some.injEq] at h
    subst h
    simp only [run_und (und_arr hk), Result.andThen_ok, Sem.run_pure]
    exact ⟨_, rfl, by simp [RepV, Rep0, goInt]⟩
  · cases h

theorem bds_sound {P : Program} {b : Bool} {n cap : Nat} {lo hi : Option D} {vlo vhi : Option Value} {p : Int × Int} (hc : n ≤ cap)
    (hlo : ∀ d, lo = some d → ∃ v, vlo = some v ∧ RepV H φ S w d v) (hlo0 : lo = none → vlo = none)
    (hhi : ∀ d, hi = some d → ∃ v, vhi = some v ∧ RepV H φ S w d v) (hhi0 : hi = none → vhi = none)
    (h : bds n lo hi = some p) (h1 : 0 ≤ p.1) (h2 : p.1 ≤ p.2) (h3 : p.2 ≤ n) :
    (Instr.sliceBounds b n cap vlo vhi none).run P w = .ok (p.1.toNat, p.2.toNat, cap) w := by
  unfold Instr.sliceBounds
  unfold bds at h
  split at h
  · rw [hlo0 rfl, hhi0 rfl]
    simp only [Option.some.injEq] at h
    subst h
    simp
  · rename_i k l
    obtain ⟨v, rfl, hv⟩ := hlo _ rfl
    simp only [RepV, Rep0] at hv
    subst hv
    rw [hhi0 rfl]
    simp only [Option.some.injEq] at h
    subst h
    simp only at h1 h2 h3
    have : (0 ≤ l ∧ l ≤ (n : Int)) := ⟨h1, h2⟩
    simp [Instr.sliceBound, asIntOf, this]
  · rename_i k l
    obtain ⟨v, rfl, hv⟩ := hhi _ rfl
    simp only [RepV, Rep0] at hv
    subst hv
    rw [hlo0 rfl]
    simp only [Option.some.injEq] at h
    subst h
    simp only at h1 h2 h3
    have : (0 ≤ l ∧ l ≤ (cap : Int)) := ⟨h2, by omega⟩
    simp [Instr.sliceBound, asIntOf, this]
  · rename_i k l k' l'
    obtain ⟨v, rfl, hv⟩ := hhi _ rfl
    simp only [RepV, Rep0] at hv
    subst hv
    obtain ⟨v, rfl, hv⟩ := hlo _ rfl
    simp only [RepV, Rep0] at hv
    subst hv
    simp only [Option.some.injEq] at h
    subst h
    simp only at h1 h2 h3
    have e1 : (0 ≤ l' ∧ l' ≤ (cap : Int)) := ⟨by omega, by omega⟩
    have e2 : (0 ≤ l ∧ l ≤ (l'.toNat : Int)) := ⟨by omega, by omega⟩
    simp [Instr.sliceBound, asIntOf, e1, e2]
    intro hh
    omega
  · cases h
end

end Go.Proofs.YtmcinfbckdiaoaaGreatDoor.Lv

set_option linter.unusedVariables false
set_option linter.unusedSimpArgs false
namespace Go.Proofs.YtmcinfbckdiaoaaGreatDoor.Lv
open Go Go.RowKit

section
variable {H : Hp} {φ : Ph} {S : Nat → Prop} {w : World}

theorem opt_map {E : Ctx} {s : St} {ρ : Operand → Value} (hev : ∀ x, RepV H φ S w (ev E s x) (ρ x)) (o : Option Operand) :
    (∀ d, o.map (ev E s) = some d → ∃ v, o.map ρ = some v ∧ RepV H φ S w d v) ∧ (o.map (ev E s) = none → o.map ρ = none) := by
  cases o with
  | none => exact ⟨fun d h => by simp at h, fun _ => rfl⟩
  | some x => exact ⟨fun d h => by simp only [Option.map_some, Option.some.injEq] at h; subst h; exact ⟨_, rfl, hev x⟩, fun h => by simp at h⟩

/-- A slice expression. -/
theorem cut_sound {E : Ctx} {t : Nat} {x : Value} {dx d : D} {lo hi : Option D} {vlo vhi : Option Value} (hx : RepV H φ S w dx x)
    (hlo : ∀ d, lo = some d → ∃ v, vlo = some v ∧ RepV H φ S w d v) (hlo0 : lo = none → vlo = none)
    (hhi : ∀ d, hi = some d → ∃ v, vhi = some v ∧ RepV H φ S w d v) (hhi0 : hi = none → vhi = none)
    (hk : ((E.tt t).k = .string ∧ ∃ z, dx = .str z) ∨ ∃ e, (E.tt t).k = .slc e ∧ (∀ z, dx ≠ .str z) ∧ (∀ ag sz n f, dx = .ro ag sz n f → (E.tt e).sz = sz) ∧
      (∀ b ver off n, dx = .sl b ver off n → ∃ fz ag sz m f, lookB H b = some (.row fz ver ag sz m f) ∧ (E.tt e).sz = sz) ∧ (∀ b off esz n, dx = .vs b off esz n → (E.tt e).sz = esz))
    (hz : ∀ e, (E.tt t).k = .slc e → (E.tt e).sz ≠ 0)
    (h : cutD dx lo hi = some d) : ∃ v, (Instr.sliceAt t x vlo vhi none).run E.P w = .ok v w ∧ RepV H φ S w d v := by
  have bind_of : ∀ {α : Type} {o : Option α} {g : α → Option D} {d : D}, o.bind g = some d → ∃ p, o = some p ∧ g p = some d := by
    intro α o g d h
    cases o with
    | none => cases h
    | some p => exact ⟨p, rfl, h⟩
  have grd_of : ∀ {c : Prop} [Decidable c] {x d : D}, grd c x = some d → c ∧ x = d := by
    intro c _ x d h
    unfold grd at h
    split at h
    · rename_i hc; exact ⟨hc, Option.some.inj h⟩
    · cases h
  rcases hk with ⟨hk, z, rfl⟩ | ⟨e, hk, hns, hro, hsl, hvs⟩
  · simp only [cutD] at h
    obtain ⟨p, hp, h⟩ := bind_of h
    obtain ⟨⟨h1, h2, h3⟩, rfl⟩ := grd_of h
    simp only [RepV, Rep0] at hx
    subst hx
    unfold Instr.sliceAt
    simp only [Sem.run_bind, run_und (und_str hk), Result.andThen_ok]
    unfold Instr.slice
    have hb := bds_sound (P := E.P) (b := false) (Nat.le_refl z.length) hlo hlo0 hhi hhi0 hp h1 h2 h3
    have hsz : (⟨z.toArray⟩ : ByteArray).size = z.length := by simp [ByteArray.size]
    simp only [Sem.run_bind, run_und (und_str hk), Result.andThen_ok, Option.isSome_none, Bool.false_eq_true, if_false, Sem.run_pure, hsz, hb]
    refine ⟨_, rfl, ?_⟩
    simp only [RepV, Rep0]
    congr 1
    apply ByteArray.ext
    apply Array.ext'
    simp [ByteArray.data_extract, List.drop_take]
  · have hk' := und_slc hk
    obtain ⟨i, ds, hi1, hu1, hsz, _⟩ := sz_of (hz e hk)
    cases dx <;> simp only [cutD, reduceCtorEq] at h
    case str z => exact absurd rfl (hns z)
    case nils =>
      obtain ⟨p, hp, h⟩ := bind_of h
      obtain ⟨⟨h1, h2⟩, rfl⟩ := grd_of h
      simp only [RepV, Rep0] at hx
      subst hx
      unfold Instr.sliceAt
      simp only [Sem.run_bind, run_und hk', Result.andThen_ok]
      unfold Instr.slice
      have hb := bds_sound (P := E.P) (b := true) (Nat.le_refl 0) hlo hlo0 hhi hhi0 hp (by omega) (by omega) (by omega)
      simp only [Sem.run_bind, run_und hk', Result.andThen_ok, hb, run_size hi1, Sem.run_pure, h1, h2]
      exact ⟨_, rfl, by simp [RepV, Rep0]⟩
    case vs b off esz n =>
      obtain ⟨p, hp, h⟩ := bind_of h
      obtain ⟨⟨h1, h2, h3⟩, rfl⟩ := grd_of h
      have hs := hvs _ _ _ _ rfl
      simp only [RepV] at hx
      obtain ⟨ag, sz, d0, c, t0, a, cap, hl, hph, rfl, hn, ha, hsome⟩ := hx
      obtain ⟨a', rfl⟩ := Option.isSome_iff_exists.1 hsome
      unfold Instr.sliceAt
      simp only [Sem.run_bind, run_und hk', Result.andThen_ok]
      unfold Instr.slice
      have hb := bds_sound (P := E.P) (b := true) hn hlo hlo0 hhi hhi0 hp h1 h2 h3
      simp only [Sem.run_bind, run_und hk', Result.andThen_ok, hb, run_size hi1, Sem.run_pure]
      refine ⟨_, rfl, ?_⟩
      simp only [RepV]
      refine ⟨ag, sz, d0, c, t0, _, _, hl, hph, rfl, by omega, fun hpos => ?_, ?_⟩
      · rw [if_neg (by omega)]
        have := ha (by omega)
        cases this
        simp [add_at]
        rw [← hs, hsz]
      · split <;> rfl
    case ro ag sz n f =>
      obtain ⟨p, hp, h⟩ := bind_of h
      obtain ⟨⟨h1, h2, h3⟩, rfl⟩ := grd_of h
      have hs := hro _ _ _ _ rfl
      simp only [RepV, Rep0] at hx
      obtain ⟨a, cap, rfl, hn, hcap, hx⟩ := hx
      unfold Instr.sliceAt
      simp only [Sem.run_bind, run_und hk', Result.andThen_ok]
      unfold Instr.slice
      have hb := bds_sound (P := E.P) (b := true) hn hlo hlo0 hhi hhi0 hp h1 h2 h3
      simp only [Sem.run_bind, run_und hk', Result.andThen_ok, hb, run_size hi1, Sem.run_pure]
      refine ⟨_, rfl, ?_⟩
      simp only [RepV, Rep0]
      refine ⟨_, _, rfl, by omega, by omega, fun hpos => ?_⟩
      obtain ⟨b, o, rfl, hb, hel⟩ := hx (by omega)
      refine ⟨b, o + p.1.toNat * i.size, ?_, hb, fun j hj => ?_⟩
      · rw [if_neg (by omega)]
        simp [add_at]
      · obtain ⟨y, vs, g1, g2, g3, g4⟩ := hel (p.1.toNat + j) (by omega)
        refine ⟨y, vs, g1, ?_, g3, g4⟩
        rw [hsz] at hs
        subst hs
        rw [show o + p.1.toNat * i.size + j * i.size = o + (p.1.toNat + j) * i.size from by rw [Nat.add_mul]; omega]
        exact g2
    case sl b ver off n =>
      obtain ⟨p, hp, h⟩ := bind_of h
      obtain ⟨⟨h1, h2, h3⟩, rfl⟩ := grd_of h
      obtain ⟨fz, ag, sz, m, f, hl, hs⟩ := hsl _ _ _ _ rfl
      simp only [RepV] at hx
      obtain ⟨fz', ver', ag', sz', m', f', hl', hv, hx⟩ := hx
      rw [hl] at hl'
      simp only [Option.some.injEq, Blk.row.injEq] at hl'
      obtain ⟨rfl, rfl, rfl, rfl, rfl, rfl⟩ := hl'
      obtain ⟨hm, a, cap, rfl, hn, ha0, ha1⟩ := hx rfl
      unfold Instr.sliceAt
      simp only [Sem.run_bind, run_und hk', Result.andThen_ok]
      unfold Instr.slice
      have hb := bds_sound (P := E.P) (b := true) hn hlo hlo0 hhi hhi0 hp h1 h2 h3
      simp only [Sem.run_bind, run_und hk', Result.andThen_ok, hb, run_size hi1, Sem.run_pure]
      refine ⟨_, rfl, ?_⟩
      simp only [RepV]
      refine ⟨fz, ver, ag, sz, m, f, hl, Nat.le_refl _, fun _ => ⟨by omega, _, _, rfl, by omega, fun hph => ?_, fun c tot hph => ?_⟩⟩
      · obtain ⟨rfl, rfl⟩ := ha0 hph
        exact ⟨by simp, by omega⟩
      · obtain ⟨g1, g2, g3⟩ := ha1 c tot hph
        refine ⟨by omega, ?_, fun hc => ?_⟩
        · split <;> simp [g2]
        · rw [if_neg (by omega), g3 (by omega)]
          rw [hsz] at hs
          subst hs
          simp [add_at, Nat.add_mul]
theorem grd_of {c : Prop} [Decidable c] {x d : D} (h : grd c x = some d) : c ∧ x = d := by
  unfold grd at h
  split at h
  · rename_i hc; exact ⟨hc, Option.some.inj h⟩
  · cases h
theorem bind_of {α : Type} {o : Option α} {g : α → Option D} {d : D} (h : o.bind g = some d) : ∃ p, o = some p ∧ g p = some d := by
  cases o with
  | none => cases h
  | some p => exact ⟨p, rfl, h⟩

theorem el_cur {b ver i fo : Nat} {v : Value} (h : ∃ fz ver' ag sz m f, lookB H b = some (.row fz ver' ag sz m f) ∧ ver ≤ ver' ∧ (ver = ver' → i < m ∧ ∃ c t, φ b = some (c, t) ∧ v = .pointer (some ⟨c, i * sz + fo, none⟩)))
    (hc : cur H b ver = true) : ∃ fz ag sz m f, lookB H b = some (.row fz ver ag sz m f) ∧ i < m ∧ ∃ c t, φ b = some (c, t) ∧ v = .pointer (some ⟨c, i * sz + fo, none⟩) := by
  obtain ⟨fz, ver', ag, sz, m, f, hl, hv, h⟩ := h
  simp only [cur, hl, beq_iff_eq] at hc
  subst hc
  obtain ⟨h1, h2⟩ := h rfl
  exact ⟨fz, ag, sz, m, f, hl, h1, h2⟩

/-- A field's place. -/
theorem fld_sound {E : Ctx} {t i fo' ft : Nat} {fs : List (Nat × Nat)} (hk : (E.tt t).k = .strct fs) (hf : fs[i]? = some (fo', ft)) (hz : (E.tt ft).sz ≠ 0) (c o : Nat) :
    (Instr.fieldAt t (.pointer (some ⟨c, o, none⟩)) i).run E.P w = .ok (.pointer (some ⟨c, o + fo', none⟩)) w := by
  obtain ⟨F, hu, rfl⟩ := und_strct hk
  obtain ⟨i', d', hi', _, hs, _⟩ := sz_of hz
  rw [hs] at hz
  rw [List.getElem?_map] at hf
  cases hF : F.toList[i]? with
  | none => rw [hF] at hf; cases hf
  | some f =>
    rw [hF] at hf
    simp only [Option.map_some, Option.some.injEq, Prod.mk.injEq] at hf
    obtain ⟨rfl, rfl⟩ := hf
    have hF' : F[i]? = some f := by simpa using hF
    unfold Instr.fieldAt
    simp only [Sem.run_bind, run_und hu, Result.andThen_ok, hF', Instr.sureAddr, Sem.run_pure, fieldPlace, run_size hi', if_neg hz, add_at]

/-- An element's place in an array. -/
theorem arr_ix {E : Ctx} {t n e c o : Nat} {k : IntKind} {i : Int} (hk : (E.tt t).k = .arr n e) (hz : (E.tt e).sz ≠ 0) (h1 : 0 ≤ i) (h2 : i < n) :
    (Instr.indexAt t (.pointer (some ⟨c, o, none⟩)) (.int k i)).run E.P w = .ok (.pointer (some ⟨c, o + i.toNat * (E.tt e).sz, none⟩)) w := by
  obtain ⟨i', d', hi', _, hs, _⟩ := sz_of hz
  unfold Instr.indexAt
  simp only [asIntOf, Sem.run_bind, Sem.run_pure, Result.andThen_ok, run_und (und_arr hk), Instr.sureAddr, if_pos (show 0 ≤ i ∧ i < (n : Int) from ⟨h1, h2⟩), run_size hi', add_at, hs]

theorem ixa_sound {E : Ctx} {t : Nat} {s : St} {ρ : Operand → Value} {x ix : Operand} (hp : HpAt s.h φ S w) (hev : ∀ x, RepV s.h φ S w (ev E s x) (ρ x)) {d : D} (h : pv E s (.indexAddr t x ix) = some d) :
    ∃ v, (Instr.indexAt t (ρ x) (ρ ix)).run E.P w = .ok v w ∧ RepV s.h φ S w d v := by
  have hx := hev x
  have hix := hev ix
  simp only [pv] at h
  split at h
  · rename_i e ag sz n f k i hk e1 e2
    rw [e1] at hx
    rw [e2] at hix
    split at h
    · rename_i hsz
      obtain ⟨hsz, hz⟩ := hsz
      obtain ⟨⟨h1, h2⟩, rfl⟩ := grd_of h
      simp only [RepV, Rep0] at hx hix
      obtain ⟨a, cap, hx1, hn, hcap, hx⟩ := hx
      rw [hx1, hix]
      obtain ⟨b, o, rfl, hb, hel⟩ := hx (by omega)
      obtain ⟨y, vs, g1, g2, g3, g4⟩ := hel i.toNat (by omega)
      unfold Instr.indexAt
      obtain ⟨i', d', hi', _, hs, _⟩ := sz_of (E := E) (t := e) (by rw [hsz]; exact hz)
      simp only [asIntOf, Sem.run_bind, Sem.run_pure, Result.andThen_ok, run_und (und_slc hk), if_pos (show 0 ≤ i ∧ i < (n : Int) from ⟨h1, h2⟩), run_size hi', add_at]
      refine ⟨_, rfl, ?_⟩
      simp only [RepV, Rep0]
      rw [hs] at hsz
      subst hsz
      exact ⟨b, o + i.toNat * i'.size, y, vs, by simp, hb, g1, g2, g3, g4⟩
    · cases h
  · rename_i e b ver off n k i hk e1 e2
    rw [e1] at hx
    rw [e2] at hix
    simp only [RepV] at hx
    obtain ⟨fz, ver', ag, sz, m, f, hl, hv, hx⟩ := hx
    rw [hl] at h
    simp only at h
    split at h
    · rename_i hc
      obtain ⟨rfl, hsz, hz⟩ := hc
      obtain ⟨⟨h1, h2⟩, rfl⟩ := grd_of h
      simp only [RepV, Rep0] at hix
      obtain ⟨hm, a, cap, hx1, hn, ha0, ha1⟩ := hx rfl
      rw [hx1, hix]
      have hph : φ b ≠ none := fun e => by have := (ha0 e).2; omega
      obtain ⟨⟨c, tot⟩, hph⟩ := Option.ne_none_iff_exists'.1 hph
      obtain ⟨g1, g2, g3⟩ := ha1 c tot hph
      rw [g3 (by omega)]
      unfold Instr.indexAt
      obtain ⟨i', d', hi', _, hs, _⟩ := sz_of (E := E) (t := e) (by rw [hsz]; exact hz)
      simp only [asIntOf, Sem.run_bind, Sem.run_pure, Result.andThen_ok, run_und (und_slc hk), if_pos (show 0 ≤ i ∧ i < (n : Int) from ⟨h1, h2⟩), run_size hi', add_at]
      refine ⟨_, rfl, ?_⟩
      simp only [RepV]
      refine ⟨fz, ver, ag, sz, m, f, hl, Nat.le_refl _, fun _ => ⟨by omega, c, tot, hph, ?_⟩⟩
      rw [hs] at hsz
      subst hsz
      simp [Nat.add_mul]
    · cases h
  · rename_i e b off esz n k i hk e1 e2
    rw [e1] at hx
    rw [e2] at hix
    split at h
    · rename_i hsz
      obtain ⟨hsz, hz⟩ := hsz
      obtain ⟨⟨h1, h2⟩, rfl⟩ := grd_of h
      simp only [RepV, Rep0] at hx hix
      obtain ⟨ag, sz, d0, c, t0, a, cap, hl, hph, hx1, hn, ha, _⟩ := hx
      rw [hx1, hix, ha (by omega)]
      unfold Instr.indexAt
      obtain ⟨i', d', hi', _, hs, _⟩ := sz_of (E := E) (t := e) (by rw [hsz]; exact hz)
      simp only [asIntOf, Sem.run_bind, Sem.run_pure, Result.andThen_ok, run_und (und_slc hk), if_pos (show 0 ≤ i ∧ i < (n : Int) from ⟨h1, h2⟩), run_size hi', add_at]
      refine ⟨_, rfl, ?_⟩
      simp only [RepV]
      rw [hs] at hsz
      subst hsz
      exact ⟨ag, sz, d0, c, t0, hl, hph, rfl⟩
    · cases h
  · rename_i n e b off k i hk e1 e2
    rw [e1] at hx
    rw [e2] at hix
    split at h
    · cases h
    · rename_i hz
      obtain ⟨⟨h1, h2⟩, rfl⟩ := grd_of h
      simp only [RepV, Rep0] at hx hix
      obtain ⟨ag, sz, d0, c, t', hl, hph, hv⟩ := hx
      rw [hv, hix, arr_ix hk hz h1 h2]
      exact ⟨_, rfl, ag, sz, d0, c, t', hl, hph, rfl⟩
  · rename_i n e b v j off k i hk e1 e2
    rw [e1] at hx
    rw [e2] at hix
    split at h
    · cases h
    · rename_i hz
      obtain ⟨⟨h1, h2⟩, rfl⟩ := grd_of h
      simp only [RepV, Rep0] at hx hix
      obtain ⟨hz, hcu⟩ := not_or.1 hz
      obtain ⟨fz, ag, sz, m, f, hl, h3, c, t', hph, hv⟩ := el_cur hx (by simpa using hcu)
      rw [hv, hix, arr_ix hk hz h1 h2]
      exact ⟨_, rfl, fz, v, ag, sz, m, f, hl, Nat.le_refl _, fun _ => ⟨h3, c, t', hph, by simp [Nat.add_assoc]⟩⟩
  · rename_i n e ag sz d0 off k i hk e1 e2
    rw [e1] at hx
    rw [e2] at hix
    split at h
    · cases h
    · rename_i hz
      obtain ⟨⟨h1, h2⟩, rfl⟩ := grd_of h
      simp only [RepV, Rep0] at hx hix
      obtain ⟨b, o, y, vs, hv, g⟩ := hx
      rw [hv, hix, arr_ix hk hz h1 h2]
      exact ⟨_, rfl, b, o, y, vs, by simp [Nat.add_assoc], g⟩
  · cases h
theorem part_run {P : Program} {t : Nat} {i : TypeInfo} {d : TypeDesc} {off : Nat} {vs : List Value} {x : Value} (hi : P.info? t = some i) (hu : P.underlying t = some d) (hle : off + i.size ≤ vs.length)
    (hc : Cells (agOf d) x ((vs.drop off).take i.size)) (h1 : agOf d = false → i.size = 1) : (Go.part t ⟨vs⟩ off).run P w = .ok x w := by
  unfold Go.part
  simp only [Sem.run_bind, run_agg hu, Result.andThen_ok]
  unfold Cells at hc
  cases ha : agOf d with
  | true =>
    rw [ha] at hc
    simp only [if_true] at hc
    simp only [if_true, Sem.run_bind, run_size hi, Result.andThen_ok, Sem.run_pure, hc]
    congr 2
    apply Array.ext'
    simp
  | false =>
    rw [ha] at hc
    simp only [Bool.false_eq_true, if_false] at hc
    rw [h1 ha] at hc hle
    have hlt : off < vs.length := by omega
    rw [List.drop_eq_getElem_cons hlt] at hc
    simp only [List.take_succ_cons, List.take_zero, List.cons.injEq, and_true] at hc
    simp [hlt, hc]

/-- Two values compared. -/
def eqParts {P : Program} (e : Nat) (xs ys : List Value) : List (Nat × Nat) → Sem Bool
  | [] => pure true
  | (off, t) :: r => do
    if !(← Op.equalIn e t (← Go.part t ⟨xs⟩ off) (← Go.part t ⟨ys⟩ off)) then pure false else eqParts (P := P) e xs ys r
theorem eqL_sound {E : Ctx} {f : Nat → D → D → Option Bool} {e : Nat} (hf : ∀ t dx dy x y b, RepV H φ S w dx x → RepV H φ S w dy y → f t dx dy = some b → (Op.equalIn e t x y).run E.P w = .ok b w) {xs ys : List Value} {cs ds : List D} (hx : RepVs H φ S w cs xs) (hy : RepVs H φ S w ds ys) :
    ∀ (ps : List (Nat × Nat)) (b : Bool), eqL E.tt f ps cs ds = some b → (eqParts (P := E.P) e xs ys ps).run E.P w = .ok b w
  | [], b, h => by
    simp only [eqL, Option.some.injEq] at h
    subst h
    rfl
  | (off, t) :: r, b, h => by
    simp only [eqL] at h
    split at h
    · rename_i hc
      obtain ⟨hz, hag⟩ := hc
      have bo : ∀ {α β : Type} {o : Option α} {g : α → Option β} {d : β}, o.bind g = some d → ∃ p, o = some p ∧ g p = some d := by
        intro α β o g d h
        cases o with
        | none => cases h
        | some p => exact ⟨p, rfl, h⟩
      obtain ⟨a, ha, h⟩ := bo h
      obtain ⟨c, hcc, h⟩ := bo h
      obtain ⟨p, hp, h⟩ := bo h
      obtain ⟨q, hq, h⟩ := Option.map_eq_some_iff.1 h
      obtain ⟨i, d, h1, h2, h3, h4⟩ := sz_of hz
      have hag' : (E.tt t).ag = false → (E.tt t).sz = 1 := fun e => by simpa [e] using hag
      obtain ⟨l1, x1, c1, r1⟩ := part_rep hx ha hag'
      obtain ⟨l2, x2, c2, r2⟩ := part_rep hy hcc hag'
      rw [h3, h4] at *
      have e1 := part_run (w := w) h1 h2 l1 c1 hag'
      have e2 := part_run (w := w) h1 h2 l2 c2 hag'
      simp only [eqParts, Sem.run_bind, e1, e2, Result.andThen_ok, hf t a c x1 x2 p r1 r2 hp, Sem.run_ite, Sem.run_pure]
      cases p
      · simp at h ⊢; exact h
      · simp at h ⊢; rw [h] at hq; exact eqL_sound hf hx hy r b hq
    · cases h
theorem eqF_parts {P : Program} (e : Nat) (xs ys : List Value) : ∀ (L : List Field), (∀ f ∈ L, f.name ≠ "_") → ∀ w, (Op.eqFields e ⟨xs⟩ ⟨ys⟩ L).run P w = (eqParts (P := P) e xs ys (L.map fun f => (f.offset, f.type))).run P w
  | [], _, w => rfl
  | g :: r, h, w => by
    have hn : g.name ≠ "_" := h g (by simp)
    have ih := eqF_parts (P := P) e xs ys r fun f hf => h f (List.mem_cons_of_mem _ hf)
    simp only [Op.eqFields, List.map_cons, eqParts, if_pos hn, Sem.run_bind, Sem.run_ite, ih]
theorem eqI_parts {P : Program} (e t c : Nat) (xs ys : List Value) : ∀ (L : List Nat) (w : World), (Op.eqItems e t c ⟨xs⟩ ⟨ys⟩ L).run P w = (eqParts (P := P) e xs ys (L.map fun i => (i * c, t))).run P w
  | [], w => rfl
  | g :: r, w => by
    have ih := eqI_parts (P := P) e t c xs ys r
    simp only [Op.eqItems, List.map_cons, eqParts, Sem.run_bind, Sem.run_ite, ih]
theorem eqD_sound {E : Ctx} : ∀ (d e : Nat), d ≤ e → ∀ (t : Nat) (dx dy : D) (x y : Value) (b : Bool), RepV H φ S w dx x → RepV H φ S w dy y → eqD E.tt d t dx dy = some b → (Op.equalIn e t x y).run E.P w = .ok b w
  | 0, _, _, t, dx, dy, x, y, b, hx, hy, h => by simp [eqD] at h
  | d + 1, 0, hde, t, dx, dy, x, y, b, hx, hy, h => by omega
  | d + 1, e + 1, hde, t, dx, dy, x, y, b, hx, hy, h => by
    have hk : (E.tt t).k ≠ .bad := by
      intro hk
      simp [eqD, hk] at h
    obtain ⟨i, ds, hi, hu, he⟩ := ti_of hk
    have ih := eqD_sound (E := E) d e (by omega)
    simp only [eqD] at h
    split at h
    · rename_i kk k a k' c hk'
      rw [he] at hk'
      cases ds <;> simp only [tkOf, reduceCtorEq] at hk'
      split at h
      · rename_i hkk
        subst hkk
        simp only [RepV, Rep0, Option.some.injEq] at hx hy h
        subst hx hy h
        unfold Op.equalIn
        simp only [Sem.run_bind, run_und hu, Result.andThen_ok, if_true, Sem.run_pure]
      · cases h
    · rename_i a c hk'
      rw [he] at hk'
      cases ds <;> simp only [tkOf, reduceCtorEq] at hk'
      simp only [RepV, Rep0, Option.some.injEq] at hx hy h
      subst hx hy h
      exact eqIn_bool e a c hu
    · rename_i a c hk'
      rw [he] at hk'
      cases ds <;> simp only [tkOf, reduceCtorEq] at hk'
      simp only [RepV, Rep0, Option.some.injEq] at hx hy h
      subst hx hy h
      unfold Op.equalIn
      simp only [Sem.run_bind, run_und hu, Result.andThen_ok, Sem.run_pure]
      congr 1
      rw [beq_toListBytes]
      simp [ByteArray.toList_eq]
    · rename_i fs xs ys hk'
      split at h
      · rename_i ho
        rw [he] at hk' ho
        simp only at hk' ho
        cases ds <;> simp only [tkOf, reduceCtorEq, TK.strct.injEq] at hk'
        rename_i F
        subst hk'
        simp only [agOf, Bool.true_and, eqOk, Bool.and_eq_true, Bool.not_eq_true', List.all_eq_true] at ho
        obtain ⟨⟨ho1, ho2⟩, ho3⟩ := ho
        simp only [RepV] at hx hy
        obtain ⟨vx, rfl, hx⟩ := hx
        obtain ⟨vy, rfl, hy⟩ := hy
        have key := eqL_sound (e := e) ih hx hy _ _ h
        have hfo : E.P.fieldsOf t = F := by simp [Program.fieldsOf, hu]
        rw [run_equalIn_struct w e t ⟨vx⟩ ⟨vy⟩ (by rw [hfo]; exact hu) ho1, hfo]
        rw [← key]
        exact eqF_parts e vx vy F.toList (fun f hf => by have := ho3 f hf; simpa using this) w
      · cases h
    · rename_i n el xs ys hk'
      split at h
      · rename_i ho
        rw [he] at hk' ho
        simp only at hk' ho
        cases ds <;> simp only [tkOf, reduceCtorEq, TK.arr.injEq] at hk'
        obtain ⟨rfl, rfl⟩ := hk'
        simp only [RepV] at hx hy
        obtain ⟨vx, rfl, hx⟩ := hx
        obtain ⟨vy, rfl, hy⟩ := hy
        have key := eqL_sound (e := e) ih hx hy _ _ h
        obtain ⟨ie, de, g1, g2, g3, g4⟩ := sz_of ho.2
        rw [run_equalIn_array w e ⟨vx⟩ ⟨vy⟩ hu g1, eqI_parts]
        rw [g3] at key
        simp only [Program.cellsOf, g1, Option.map_some, Option.getD_some]
        exact key
      · cases h
    · cases h
theorem eqOr_sound {E : Ctx} {op : BinOp} {t : Nat} {xo yo : Operand} {x y : Value} {dx dy d : D} (hx : RepV H φ S w dx x) (hy : RepV H φ S w dy y) (h : eqOr E op t dx dy = some d) :
    ∃ v, (do eqGuard op t xo yo x y; binOp op t x y : Sem Value).run E.P w = .ok v w ∧ RepV H φ S w d v := by
  unfold eqOr at h
  split at h
  · rename_i xs ys
    have hx' := hx
    have hy' := hy
    simp only [RepV] at hx hy
    obtain ⟨vx, rfl, hx⟩ := hx
    obtain ⟨vy, rfl, hy⟩ := hy
    have gk : (E.tt t).eqo = true → E.P.eqGuardType E.P.depth t = false := fun he => by
      have hk : (E.tt t).k ≠ .bad := by
        intro e
        rw [E.htt] at e he
        unfold tiOf at e he
        split at e
        · rename_i d _ _; cases d <;> simp [tkOf] at e
        · rename_i hno
          revert he
          cases h1 : E.P.info? t <;> cases h2 : E.P.underlying t <;> simp
          exact (hno _ _ h1 h2).elim
      obtain ⟨i, ds, _, _, h3⟩ := ti_of hk
      rw [h3] at he
      simp only [eqOk, Bool.and_eq_true, Bool.not_eq_true'] at he
      exact he.2.1.2
    split at h
    · split at h
      · rename_i ho
        obtain ⟨b, hb, rfl⟩ := Option.map_eq_some_iff.1 h
        have h1 := eqD_sound (E := E) 4 (9999 + 1) (by omega) t _ _ _ _ b hx' hy' hb
        simp only [Sem.run_bind, run_eqGuard_agg w _ t xo yo ⟨vx⟩ ⟨vy⟩ (gk ho), Result.andThen_ok]
        refine ⟨.bool b, ?_, by simp [RepV, Rep0]⟩
        rw [run_eql_struct]
        rw [show (10000 : Nat) = 9999 + 1 from rfl, h1]
        rfl
      · cases h
    · split at h
      · rename_i ho
        obtain ⟨b, hb, rfl⟩ := Option.map_eq_some_iff.1 h
        have h1 := eqD_sound (E := E) 4 (9999 + 1) (by omega) t _ _ _ _ b hx' hy' hb
        simp only [Sem.run_bind, run_eqGuard_agg w _ t xo yo ⟨vx⟩ ⟨vy⟩ (gk ho), Result.andThen_ok]
        refine ⟨.bool !b, ?_, by simp [RepV, Rep0]⟩
        rw [run_neq_struct]
        rw [show (10000 : Nat) = 9999 + 1 from rfl, h1]
        rfl
      · cases h
    · cases h
  · exact bin_sound hx hy h

theorem index_sound {E : Ctx} {t : Nat} {s : St} {ρ : Operand → Value} {x ix : Operand} (hev : ∀ x, RepV s.h φ S w (ev E s x) (ρ x)) {d : D} (h : pv E s (.index t x ix) = some d) :
    ∃ v, (Instr.index t (ρ x) (ρ ix)).run E.P w = .ok v w ∧ RepV s.h φ S w d v := by
  have hx := hev x
  have hix := hev ix
  simp only [pv] at h
  split at h
  · rename_i n e cs k i hk e1 e2
    rw [e1] at hx
    rw [e2] at hix
    split at h
    · rename_i hag
      obtain ⟨hz, hag⟩ := hag
      obtain ⟨d', hp, h⟩ := bind_of h
      obtain ⟨⟨h1, h2⟩, rfl⟩ := grd_of h
      simp only [RepV, Rep0] at hx hix
      obtain ⟨vs, hv, hx⟩ := hx
      have hag' : (E.tt e).ag = false → (E.tt e).sz = 1 := fun e => by simpa [e] using hag
      obtain ⟨hle, y, hc, hr⟩ := part_rep hx hp hag'
      rw [hv, hix]
      unfold Instr.index
      simp only [asIntOf, Sem.run_bind, Sem.run_pure, Result.andThen_ok, run_und (und_arr hk), if_pos (show 0 ≤ i ∧ i < (n : Int) from ⟨h1, h2⟩)]
      obtain ⟨i', d', hi', hu', hs, ha⟩ := sz_of hz
      rw [hs, ha] at hc
      rw [hs] at hle
      rw [hs, ha] at hag'
      simp only [run_size hi', Result.andThen_ok]
      exact ⟨y, part_run hi' hu' hle hc hag', hr⟩
    · cases h
  · rename_i z k i hk e1 e2
    rw [e1] at hx
    rw [e2] at hix
    obtain ⟨⟨h1, h2⟩, rfl⟩ := grd_of h
    simp only [RepV, Rep0] at hx hix
    rw [hx, hix]
    unfold Instr.index
    have hlt : i.toNat < z.length := by omega
    have hg : (⟨z.toArray⟩ : ByteArray)[i.toNat]? = some z[i.toNat] := by
      rw [getElem?_pos (⟨z.toArray⟩ : ByteArray) i.toNat (by simpa [ByteArray.size] using hlt)]
      rfl
    simp only [asIntOf, Sem.run_bind, Sem.run_pure, Result.andThen_ok, run_und (und_str hk), if_pos h1, hg]
    exact ⟨_, rfl, by simp [RepV, Rep0, List.getD, hlt]⟩
  · cases h
theorem field_sound {E : Ctx} {t j : Nat} {s : St} {ρ : Operand → Value} {x : Operand} (hev : ∀ x, RepV s.h φ S w (ev E s x) (ρ x)) {d : D} (h : pv E s (.field t x j) = some d) :
    ∃ v, (Instr.field t (ρ x) j).run E.P w = .ok v w ∧ RepV s.h φ S w d v := by
  have hx := hev x
  simp only [pv] at h
  split at h
  · rename_i fs hk
    obtain ⟨F, hu, rfl⟩ := und_strct hk
    split at h
    · rename_i fo ft hf
      split at h
      · rename_i hag
        obtain ⟨hz, hag⟩ := hag
        obtain ⟨cs, hcs, h⟩ := bind_of h
        have hag' : (E.tt ft).ag = false → (E.tt ft).sz = 1 := fun e => by simpa [e] using hag
        cases hd : ev E s x <;> rw [hd] at hcs <;> simp only [asAgg, Option.some.injEq, reduceCtorEq] at hcs
        rw [hd] at hx
        subst hcs
        simp only [RepV] at hx
        obtain ⟨vs, hv, hx⟩ := hx
        obtain ⟨hle, y, hc, hr⟩ := part_rep hx h hag'
        obtain ⟨i', d', hi', hu', hs, ha⟩ := sz_of hz
        rw [hs, ha] at hc
        rw [hs] at hle
        rw [hs, ha] at hag'
        rw [List.getElem?_map] at hf
        cases hF : F.toList[j]? with
        | none => rw [hF] at hf; cases hf
        | some f =>
          rw [hF] at hf
          simp only [Option.map_some, Option.some.injEq, Prod.mk.injEq] at hf
          obtain ⟨rfl, rfl⟩ := hf
          have hF' : F[j]? = some f := by simpa using hF
          rw [hv]
          unfold Instr.field
          simp only [Sem.run_bind, run_und hu, Result.andThen_ok, hF', asAgg, Sem.run_pure]
          exact ⟨y, part_run hi' hu' hle hc hag', hr⟩
      · cases h
    · cases h
  · cases h

theorem fa_sound {E : Ctx} {t j : Nat} {s : St} {ρ : Operand → Value} {x : Operand} (hev : ∀ x, RepV s.h φ S w (ev E s x) (ρ x)) {d : D} (h : pv E s (.fieldAddr t x j) = some d) :
    ∃ v, (Instr.fieldAt t (ρ x) j).run E.P w = .ok v w ∧ RepV s.h φ S w d v := by
  have hx := hev x
  simp only [pv] at h
  split at h
  · rename_i fs hk
    split at h
    · rename_i fo ft hf
      split at h
      · cases h
      · rename_i hz
        split at h
        · rename_i b off e
          rw [e] at hx
          simp only [RepV] at hx
          obtain ⟨ag, sz, d0, c, t', hl, hph, hv⟩ := hx
          simp only [Option.some.injEq] at h
          subst h
          rw [hv, fld_sound hk hf hz]
          exact ⟨_, rfl, ag, sz, d0, c, t', hl, hph, rfl⟩
        · rename_i b v i off e
          rw [e] at hx
          simp only [RepV] at hx
          split at h
          · rename_i hcu
            obtain ⟨fz, ag, sz, m, f, hl, h3, c, t', hph, hv⟩ := el_cur hx hcu
            simp only [Option.some.injEq] at h
            subst h
            rw [hv, fld_sound hk hf hz]
            exact ⟨_, rfl, fz, v, ag, sz, m, f, hl, Nat.le_refl _, fun _ => ⟨h3, c, t', hph, by simp [Nat.add_assoc]⟩⟩
          · cases h
        · rename_i ag sz d0 off e
          rw [e] at hx
          simp only [RepV, Rep0] at hx
          obtain ⟨b, o, y, vs, hv, g⟩ := hx
          simp only [Option.some.injEq] at h
          subst h
          rw [hv, fld_sound hk hf hz]
          exact ⟨_, rfl, b, o, y, vs, by simp [Nat.add_assoc], g⟩
        · cases h
    · cases h
  · cases h

theorem bytes_run {P : Program} {src e dst : Nat} (hs : P.underlying src = some (.slice e)) (he : P.underlying e = some (.int .u8)) (hd : P.underlying dst = some .string) {n cap : Nat} {a : Option Addr} {f : Nat → D}
    (hu : ∀ i, i < n → isU8 (f i) = true) (h : 0 < n → ∃ b o, a = some ⟨b, o, none⟩ ∧ ∀ i, i < n → ∃ x, w.cell? ⟨b, o + i, none⟩ = some x ∧ Rep0 S w (f i) x) :
    (convert src dst (.slice a n cap)).run P w = .ok (.string ⟨((List.range n).map fun i => u8Of (f i)).toArray⟩) w := by
  rcases Nat.eq_zero_or_pos n with rfl | hn
  · cases a with
    | none => rw [run_convert_bytes_nil w src e hs he 0 cap dst hd]; rfl
    | some ad =>
      rw [run_convert_bytes_string w src dst e _ 0 cap hs he hd]
      simp [Conv.bytesToString, loadCells, loadCellsFrom]
      rfl
  · obtain ⟨b, o, rfl, hel⟩ := h hn
    have hval : ∀ i, i < n → ∃ k, f i = .int .u8 k := fun i hi => by
      have := hu i hi
      cases hf : f i <;> rw [hf] at this <;> simp [isU8] at this
      rename_i k m
      cases k <;> simp [isU8] at this
      exact ⟨m, rfl⟩
    rw [run_convert_bytes_arg w src e hs he b o n cap ((List.range n).map fun i => match f i with | .int _ k => k | _ => 0) (by simp) (fun i hi => ?_) dst hd]
    · simp only [strOfNums, List.map_map]
      congr 3
      apply congrArg
      apply List.map_congr_left
      intro i hi
      obtain ⟨k, hk⟩ := hval i (by simpa using hi)
      simp [hk, u8Of]
    · obtain ⟨x, hx, hr⟩ := hel i hi
      obtain ⟨k, hk⟩ := hval i hi
      rw [hk] at hr
      simp only [Rep0] at hr
      rw [hx, hr]
      simp [List.getD, hi, hk]

theorem conv_sound {E : Ctx} {src t : Nat} {x : Value} {dx d : D} (hp : HpAt H φ S w) (hx : RepV H φ S w dx x) (h : conv E H src t dx = some d) :
    ∃ v, (convert src t x).run E.P w = .ok v w ∧ RepV H φ S w d v := by
  unfold conv at h
  by_cases hsrc : (E.tt src).k = .bad
  · rw [if_pos hsrc] at h
    cases h
  rw [if_neg hsrc] at h
  obtain ⟨i0, d0, hi0, hu0, he0⟩ := ti_of hsrc
  split at h
  · rename_i k k' n hk
    simp only [RepV, Rep0] at hx
    subst hx
    simp only [Option.some.injEq] at h
    subst h
    unfold convert
    simp only [Sem.run_bind, run_und hu0, run_und (und_int hk), Result.andThen_ok]
    cases d0 <;> simp [Conv.intToInt, RepV, Rep0]
  · rename_i s hk
    simp only [RepV, Rep0] at hx
    subst hx
    simp only [Option.some.injEq] at h
    subst h
    unfold convert
    simp only [Sem.run_bind, run_und hu0, run_und (und_str hk), Result.andThen_ok]
    cases d0 <;> simp [RepV, Rep0]
  · rename_i dx _ _ hk hns
    clear hns
    split at h
    · rename_i e hks
      split at h
      · rename_i hke
        have hus := und_slc hks
        have hue := und_int hke
        cases dx <;> simp only [bstr, reduceCtorEq] at h
        case nils =>
          simp only [RepV, Rep0] at hx
          subst hx
          simp only [Option.some.injEq] at h
          subst h
          rw [run_convert_bytes_nil w src e hus hue 0 0 t (und_str hk)]
          exact ⟨_, rfl, by simp only [RepV, Rep0]; rfl⟩
        case ro ag sz n f =>
          obtain ⟨hu, rfl⟩ := grd_of h
          simp only [RepV, Rep0] at hx
          obtain ⟨a, cap, rfl, hn, hcap, hx⟩ := hx
          refine ⟨_, bytes_run (S := S) hus hue (und_str hk) hu fun hpos => ?_, by simp only [RepV, Rep0]⟩
          obtain ⟨b, o, rfl, hb, hel⟩ := hx hpos
          refine ⟨b, o, rfl, fun i hi => ?_⟩
          obtain ⟨y, vs, g1, g2, g3, g4⟩ := hel i hi
          have hui := hu i hi
          have g4' := g4
          cases hf : f i <;> rw [hf] at hui g4 <;> simp [isU8] at hui
          simp only [Rep0] at g4
          subst g4
          cases ag <;> simp only [Cells, if_true, Bool.false_eq_true, if_false, reduceCtorEq] at g3
          subst g3
          simp only [List.length_singleton] at g1
          subst g1
          have hcell := (g2 0 _ rfl).1
          simp only [Nat.mul_one, Nat.add_zero] at hcell
          first | exact ⟨_, hcell, g4'⟩ | exact ⟨_, hcell, by simp [Rep0]⟩
        case sl b ver off n =>
          simp only [RepV] at hx
          obtain ⟨fz, ver', ag, sz, m, f, hl, hv, hx⟩ := hx
          rw [hl] at h
          simp only at h
          split at h
          · rename_i hver
            subst hver
            obtain ⟨hu, rfl⟩ := grd_of h
            obtain ⟨hm, a, cap, rfl, hn, ha0, ha1⟩ := hx rfl
            refine ⟨_, bytes_run (S := S) (f := fun i => f (off + i)) hus hue (und_str hk) hu fun hpos => ?_, by simp only [RepV, Rep0]⟩
            have hph : φ b ≠ none := fun e => by have := (ha0 e).2; omega
            obtain ⟨⟨c, tot⟩, hph⟩ := Option.ne_none_iff_exists'.1 hph
            obtain ⟨q1, q2, q3⟩ := ha1 c tot hph
            obtain ⟨_, _, htot, hn2, vs, e2, lo, hi', hheap, hlen, ⟨_, h1c⟩, hels⟩ := (hp.blk b _ hl).2 c tot hph
            refine ⟨c, off * sz, q3 (by omega), fun i hi => ?_⟩
            obtain ⟨y, g3, g4⟩ := hels (off + i) (by omega)
            have hui := hu i hi
            have g4' := g4
            cases hf : f (off + i) <;> rw [hf] at hui g4 <;> simp [isU8] at hui
            simp only [Rep0] at g4
            subst g4
            cases ag <;> simp only [Cells, if_true, Bool.false_eq_true, if_false, reduceCtorEq] at g3
            have hlt : (off + i + 1) * sz ≤ tot * sz := Nat.mul_le_mul_right _ (by omega)
            rw [Nat.add_mul] at hlt
            have h1 : sz = 1 := by
              have := congrArg List.length g3
              simp only [List.length_take, List.length_drop, List.length_singleton] at this
              omega
            subst h1
            have hat := (At.of_heap hheap h1c).part ((off + i) * 1) 1
            rw [g3] at hat
            have hcell := (hat 0 _ rfl).1
            simp only [Nat.zero_add, Nat.add_zero, Nat.mul_one] at hcell
            simp only [Nat.mul_one]
            first | exact ⟨_, hcell, g4'⟩ | exact ⟨_, hcell, by simp [Rep0]⟩
          · cases h
      · cases h
    · cases h
  · cases h
theorem mm_sound (f : Int → Int → Int) (g : Value → Value → Sem Value) (hg : ∀ k k' x y, g (.int k x) (.int k' y) = pure (.int k (f x y))) {P : Program} {x y : Value} {dx dy d : D} (hx : RepV H φ S w dx x) (hy : RepV H φ S w dy y) (h : mm f dx dy = some d) :
    ∃ v, (g x y).run P w = .ok v w ∧ RepV H φ S w d v := by
  unfold mm at h
  split at h
  · simp only [RepV, Rep0] at hx hy
    subst hx hy
    simp only [Option.some.injEq] at h
    subst h
    rw [hg]
    exact ⟨_, rfl, by simp [RepV, Rep0]⟩
  · cases h

theorem ev_map {E : Ctx} {s : St} {ρ : Operand → Value} (hev : ∀ x, RepV s.h φ S w (ev E s x) (ρ x)) : ∀ l : List Operand, RepVs s.h φ S w (l.map (ev E s)) (l.map ρ)
  | [] => rfl
  | x :: l => ⟨_, _, rfl, hev x, ev_map hev l⟩

/-- ALL THE OPERATIONS THAT ONLY RECKON OR READ (but 'build'). -/
theorem pv_sound0 {E : Ctx} {s : St} {a : Act} (hp : HpAt s.h φ S w) (hev : ∀ x, RepV s.h φ S w (ev E s x) (a.eval x)) {o : Oper} {d : D} (h : pv E s o.op = some d) (hb : ∀ t ps, o.op ≠ .build t ps) :
    ∃ v, (execOp a.eval o).run E.P w = .ok (.value v) w ∧ RepV s.h φ S w d v := by
  have lift : ∀ {m : Sem Value}, (∃ v, m.run E.P w = .ok v w ∧ RepV s.h φ S w d v) → ∃ v, (do pure (Next.value (← m)) : Sem Next).run E.P w = .ok (.value v) w ∧ RepV s.h φ S w d v := by
    rintro m ⟨v, hv, hr⟩
    exact ⟨v, by simp [hv], hr⟩
  obtain ⟨dst, op, ty, pos, after, guard⟩ := o
  simp only at h hb
  unfold execOp
  cases op <;> first | (simp only [pv, reduceCtorEq] at h; done) | skip
  case move x =>
    simp only [pv, Option.some.injEq] at h
    subst h
    exact ⟨_, rfl, hev x⟩
  case assign x =>
    simp only [pv, Option.some.injEq] at h
    subst h
    exact ⟨_, rfl, hev x⟩
  case pick c x y =>
    simp only [pv] at h
    split at h
    · rename_i b e
      have hc := hev c
      rw [e] at hc
      simp only [RepV, Rep0] at hc
      simp only [Option.some.injEq] at h
      subst h
      simp only [hc, asBool, Sem.run_bind, Sem.run_pure, Result.andThen_ok]
      cases b
      · exact ⟨_, rfl, by simpa using hev y⟩
      · exact ⟨_, rfl, by simpa using hev x⟩
    · cases h
  case build t ps => exact absurd rfl (hb t ps)
  case load t x =>
    simp only [pv] at h
    refine lift ?_
    split at h
    · cases h
    · rename_i hk
      exact ldd_sound hp (by simpa using hk) (hev x) h
  case nilCheck x =>
    dsimp only
    have hx := hev x
    simp only [pv] at h
    split at h
    · rename_i b off e
      rw [e] at hx
      simp only [Option.some.injEq] at h
      subst h
      obtain ⟨ag, sz, d0, c, t', hl, hph, hv⟩ := (show ∃ ag sz d c t, lookB s.h b = some (.var ag sz d) ∧ φ b = some (c, t) ∧ a.eval x = .pointer (some ⟨c, off, none⟩) by simpa only [RepV] using hx)
      rw [hv] at hx ⊢
      exact ⟨_, rfl, hx⟩
    · rename_i b v i off e
      rw [e] at hx
      split at h
      · rename_i hcu
        simp only [Option.some.injEq] at h
        subst h
        obtain ⟨fz, ag, sz, m, f, hl, h3, c, t', hph, hv⟩ := el_cur (by simpa only [RepV] using hx) hcu
        rw [hv] at hx ⊢
        exact ⟨_, rfl, hx⟩
      · cases h
    · rename_i ag sz d0 off e
      rw [e] at hx
      simp only [Option.some.injEq] at h
      subst h
      obtain ⟨b, o, y, vs, hv, g⟩ := (show ∃ b o y vs, a.eval x = .pointer (some ⟨b, o + off, none⟩) ∧ S b ∧ vs.length = sz ∧ At w b o vs ∧ Cells ag y vs ∧ Rep0 S w d0 y by simpa only [RepV, Rep0] using hx)
      rw [hv] at hx ⊢
      exact ⟨_, rfl, hx⟩
    · cases h
  case binOp op t x y yt =>
    simp only [pv] at h
    exact lift (eqOr_sound (hev x) (hev y) h)
  case unOp op t x =>
    simp only [pv] at h
    exact lift (un_sound (hev x) h)
  case convert src t x =>
    simp only [pv] at h
    exact lift (conv_sound hp (hev x) h)
  case makeFunc f first cap =>
    dsimp only
    obtain ⟨first⟩ := first
    obtain ⟨cap⟩ := cap
    cases f <;> cases first <;> simp only [pv, Option.some.injEq, reduceCtorEq] at h
    rename_i fid
    subst h
    refine ⟨.func (.func fid) #[] ⟨cap.map a.eval⟩, by simp [Instr.makeFunc], ?_⟩
    simp only [RepV]
    exact ⟨_, rfl, ev_map hev cap⟩
  case slice t x lo hi mx =>
    cases mx with
    | some m => simp only [pv, reduceCtorEq] at h
    | none =>
      obtain ⟨l1, l2⟩ := opt_map hev lo
      obtain ⟨h1, h2⟩ := opt_map hev hi
      refine lift ?_
      simp only [pv] at h
      split at h
      · rename_i hk
        split at h
        · rename_i z e
          exact cut_sound (e ▸ hev x) l1 l2 h1 h2 (.inl ⟨hk, z, rfl⟩) (fun e he => by rw [hk] at he; cases he) h
        · cases h
      · rename_i e hk
        split at h
        · cases h
        · rename_i hz
          have hz' : ∀ e', (E.tt t).k = .slc e' → (E.tt e').sz ≠ 0 := fun e' he => by rw [hk] at he; cases he; exact hz
          split at h
          · cases h
          · split at h
            · rename_i ag sz n f e1
              split at h
              · rename_i hs
                exact cut_sound (hev x) l1 l2 h1 h2 (.inr ⟨e, hk, ⟨fun z he => (by rw [e1] at he; cases he), fun _ _ _ _ he => (by rw [e1] at he; cases he; exact hs), fun _ _ _ _ he => (by rw [e1] at he; cases he), fun _ _ _ _ he => (by rw [e1] at he; cases he)⟩⟩) hz' h
              · cases h
            · rename_i b ver off n e1
              split at h
              · rename_i fz v' ag sz m f hl
                split at h
                · rename_i hs
                  obtain ⟨rfl, hs⟩ := hs
                  exact cut_sound (hev x) l1 l2 h1 h2 (.inr ⟨e, hk, ⟨fun z he => (by rw [e1] at he; cases he), fun _ _ _ _ he => (by rw [e1] at he; cases he), fun _ _ _ _ he => (by rw [e1] at he; cases he; exact ⟨fz, ag, sz, m, f, hl, hs⟩), fun _ _ _ _ he => (by rw [e1] at he; cases he)⟩⟩) hz' h
                · cases h
              · cases h
            · rename_i b off esz n e1
              split at h
              · rename_i hs
                exact cut_sound (hev x) l1 l2 h1 h2 (.inr ⟨e, hk, ⟨fun z he => (by rw [e1] at he; cases he), fun _ _ _ _ he => (by rw [e1] at he; cases he), fun _ _ _ _ he => (by rw [e1] at he; cases he), fun _ _ _ _ he => (by rw [e1] at he; cases he; exact hs)⟩⟩) hz' h
              · cases h
            · rename_i h3 _ h4 h5 h6
              exact cut_sound (hev x) l1 l2 h1 h2 (.inr ⟨e, hk, h3, fun ag sz n f he => (h4 ag sz n f he).elim, fun b ver off n he => (h5 b ver off n he).elim, fun b off esz n he => (h6 b off esz n he).elim⟩) hz' h
      · rename_i n e hk
        split at h
        · rename_i b off e1
          split at h
          · cases h
          · rename_i hz
            simp only [Option.some.injEq] at h
            subst h
            have hx := hev x
            rw [e1] at hx
            simp only [RepV] at hx
            obtain ⟨ag, sz, d0, c, t0, hl, hph, hx1⟩ := hx
            obtain ⟨i', d', hi', _, hs, _⟩ := sz_of (E := E) (t := e) hz
            rw [hx1]
            unfold Instr.sliceAt
            simp only [Option.map_none, Instr.sureAddr, Sem.run_bind, Sem.run_pure, Result.andThen_ok, run_und (und_arr hk)]
            have hb : (Instr.sliceBounds false n n none none none).run E.P w = .ok (0, n, n) w := by simp [Instr.sliceBounds, run_sliceBound]
            simp only [hb, Result.andThen_ok, run_size hi', Sem.run_pure]
            refine ⟨_, rfl, ?_⟩
            simp only [RepV]
            refine ⟨ag, sz, d0, c, t0, _, _, hl, hph, rfl, by omega, fun hp => ?_, ?_⟩
            · rw [if_neg (by omega)]
              simp [add_at]
            · rfl
        · cases h
      · cases h
  case fieldAddr t x i => exact lift (fa_sound hev h)
  case field t x i => exact lift (field_sound hev h)
  case indexAddr t x i => exact lift (ixa_sound hp hev h)
  case index t x i => exact lift (index_sound hev h)
  case extract x i =>
    refine lift ?_
    simp only [pv] at h
    split at h
    · rename_i ds e
      have hx := hev x
      rw [e] at hx
      simp only [RepV] at hx
      obtain ⟨vs, hv, hx⟩ := hx
      obtain ⟨v, h1, h2⟩ := hx.get i h
      rw [hv]
      exact ⟨v, by simp [Instr.extract, h1], h2⟩
    · cases h
  case call c =>
    obtain ⟨callee, ⟨args⟩, ⟨tys⟩⟩ := c
    dsimp only
    have mmx : ∀ (bi : Builtin) (f : Int → Int → Int) (g : Value → Value → Sem Value) (x y : Operand), callee = .builtin bi → args = [x, y] →
        (∀ k k' x y, g (.int k x) (.int k' y) = pure (.int k (f x y))) → mm f (ev E s x) (ev E s y) = some d →
        (∀ tys ty cs, builtin bi tys ty cs #[a.eval x, a.eval y] = (do pure (.value (← g (a.eval x) (a.eval y))) : Sem Next)) →
        ∃ v, (do let d ← resolve a.eval ⟨callee, ⟨args⟩, ⟨tys⟩⟩ ty; invoke d.target d.args : Sem Next).run E.P w = .ok (.value v) w ∧ RepV s.h φ S w d v := by
      rintro bi f g x y rfl rfl hg hm hb
      obtain ⟨v, h1, h2⟩ := mm_sound (P := E.P) f g hg (hev x) (hev y) hm
      refine ⟨v, ?_, h2⟩
      simp [resolve, invoke, hb, h1]
    unfold pv at h
    split at h <;> first | (rename_i e; cases e) | cases h
    · obtain ⟨v, h1, h2⟩ := len_sound (E := E) (ty := ty) (hev _) h
      refine ⟨v, ?_, h2⟩
      simp [resolve, invoke, builtin, h1]
    · refine mmx .min min Builtin.min2 _ _ rfl rfl (fun k k' x y => ?_) h (fun tys ty cs => by simp [builtin, Builtin.min_])
      simp only [Builtin.min2]
      congr 2
      split <;> omega
    · refine mmx .max max Builtin.max2 _ _ rfl rfl (fun k k' x y => ?_) h (fun tys ty cs => by simp [builtin, Builtin.max_])
      simp only [Builtin.max2]
      congr 2
      split <;> omega
end

end Go.Proofs.YtmcinfbckdiaoaaGreatDoor.Lv

set_option linter.unusedVariables false
set_option linter.unusedSimpArgs false
namespace Go.Proofs.YtmcinfbckdiaoaaGreatDoor.Lv
open Go Go.RowKit

def up (h : Hp) (b : Nat) (x : Blk) : Hp := match h with
  | [] => []
  | (b', y) :: r => if b = b' then (b', x) :: r else (b', y) :: up r b x
/-- Has it a type's cells? -/
def chk (h : Hp) (ag : Bool) (sz : Nat) (d : D) : Bool := match cellsOf ag d with
  | some cs => cs.length == sz && cs.all (one h)
  | none => false
mutual
/-- Does it lead to no block of the call's own? -/
def cl : D → Bool
  | .sl .. | .ad .. | .el .. | .vs .. => false
  | .agg cs | .fn _ cs | .tup cs => cls cs
  | _ => true
def cls : List D → Bool
  | [] => true
  | d :: ds => cl d && cls ds
end
/-- A part of a whole written. -/
def wr (ag' : Bool) (sz : Nat) (d : D) (off : Nat) (ag : Bool) (n : Nat) (v : D) : Option D :=
  if ag && ag' && off == 0 && n == sz then some v else
    (cellsOf ag' d).bind fun cs => (cellsOf ag v).bind fun vs => if off + n ≤ cs.length then
      (if ag' then some (.agg (cs.take off ++ vs ++ cs.drop (off + n))) else vs.head?) else none
def srcOf (h : Hp) : D → Option (Nat × (Nat → D) × Option (Bool × Nat))
  | .nils => some (0, fun _ => .unk, none)
  | .ro ag sz n f => some (n, f, some (ag, sz))
  | .sl b ver off n => match lookB h b with
    | some (.row _ ver' ag sz _ f) => if ver = ver' then some (n, fun i => f (off + i), some (ag, sz)) else none
    | _ => none
  | .str s => some (s.length, fun i => .int .u8 ((s.getD i 0).toNat : Int), some (false, 1))
  | _ => none

/-- The operations that make memory or write it: what must hold, that K holds behind. -/
def ef (E : Ctx) (s : St) (op : Op) (K : D → St → Prop) : Prop := match op with
  | .box t x => (E.tt t).k ≠ .bad ∧ chk s.h (E.tt t).ag (E.tt t).sz (ev E s x) = true ∧ K (.ad s.nx 0) ⟨s.e, (s.nx, .var (E.tt t).ag (E.tt t).sz (ev E s x)) :: s.h, s.nx + 1⟩
  | .alloc t => (E.tt t).hz = true ∧ chk s.h (E.tt t).ag (E.tt t).sz (E.tt t).zero = true ∧ K (.ad s.nx 0) ⟨s.e, (s.nx, .var (E.tt t).ag (E.tt t).sz (E.tt t).zero) :: s.h, s.nx + 1⟩
  | .store t a x => (E.tt t).k ≠ .bad ∧ chk s.h (E.tt t).ag (E.tt t).sz (ev E s x) = true ∧ match ev E s a with
    | .ad b off => match lookB s.h b with
      | some (.var ag sz d) => ∃ d', wr ag sz d off (E.tt t).ag (E.tt t).sz (ev E s x) = some d' ∧ K (.tup []) ⟨s.e, up s.h b (.var ag sz d'), s.nx⟩
      | _ => False
    | .el b ver i fo => match lookB s.h b with
      | some (.row false ver' ag sz n f) => ver = ver' ∧ cl (ev E s x) = true ∧ ∃ d', wr ag sz (f i) fo (E.tt t).ag (E.tt t).sz (ev E s x) = some d' ∧
          K (.tup []) ⟨s.e, up s.h b (.row false ver ag sz n fun j => if j = i then d' else f j), s.nx⟩
      | _ => False
    | _ => False
  | .makeSlice t l c => match (E.tt t).k, ev E s l, ev E s c with
    | .slc e, .int _ n, .int _ n' => (E.tt e).hz = true ∧ (E.tt e).k ≠ .bad ∧ chk [] (E.tt e).ag (E.tt e).sz (E.tt e).zero = true ∧ (E.tt e).sz ≠ 0 ∧ n = n' ∧ 0 ≤ n ∧ n ≤ 9223372036854775807 ∧ n * (E.tt e).bytes ≤ 281474976710656 ∧
        K (.sl s.nx 0 0 n.toNat) ⟨s.e, (s.nx, .row false 0 (E.tt e).ag (E.tt e).sz n.toNat fun _ => (E.tt e).zero) :: s.h, s.nx + 1⟩
    | _, _, _ => False
  | .buildSlice t n ⟨ps⟩ => match (E.tt t).k with
    | .slc e => (E.tt e).k ≠ .bad ∧ (E.tt e).hz = true ∧ chk [] (E.tt e).ag (E.tt e).sz (E.tt e).zero = true ∧ (E.tt e).sz ≠ 0 ∧ n * (E.tt e).sz ≤ 16777216 ∧ ps.map (·.1) = List.range n ∧ (ps.all fun p => chk s.h (E.tt e).ag (E.tt e).sz (ev E s p.2) && cl (ev E s p.2)) = true ∧
        K (.sl s.nx 0 0 n) ⟨s.e, (s.nx, .row false 0 (E.tt e).ag (E.tt e).sz n fun i => (ps.map fun p => ev E s p.2).getD i .unk) :: s.h, s.nx + 1⟩
    | _ => False
  | .call { callee := .builtin .append, args := ⟨[x, y]⟩, argTypes := ⟨[t, u]⟩ } => match (E.tt t).k, (E.tt u).k, srcOf s.h (ev E s y) with
    | .slc e, uk, some (m, g, k) => (uk = .slc e ∨ uk = .string) ∧ (E.tt e).k ≠ .bad ∧ (E.tt e).hz = true ∧ chk [] (E.tt e).ag (E.tt e).sz (E.tt e).zero = true ∧ (E.tt e).sz ≠ 0 ∧ (k = none ∨ k = some ((E.tt e).ag, (E.tt e).sz)) ∧ match ev E s x with
      | .nils => m ≤ 9223372036854775807 ∧ m * (E.tt e).bytes ≤ 140737488355328 ∧ K (.sl s.nx 0 0 m) ⟨s.e, (s.nx, .row false 0 (E.tt e).ag (E.tt e).sz m g) :: s.h, s.nx + 1⟩
      | .sl b ver 0 n => match lookB s.h b with
        | some (.row false ver' ag sz _ f) => ver = ver' ∧ ag = (E.tt e).ag ∧ sz = (E.tt e).sz ∧ n + m ≤ 9223372036854775807 ∧ (n + m) * (E.tt e).bytes ≤ 140737488355328 ∧
            K (.sl b (ver + 1) 0 (n + m)) ⟨s.e, up s.h b (.row false (ver + 1) ag sz (n + m) fun j => if j < n then f j else g (j - n)), s.nx⟩
        | _ => False
      | _ => False
    | _, _, _ => False
  | .convert src t x => match (E.tt src).k, (E.tt t).k, ev E s x with
    | .string, .slc e, .str l => (E.tt e).k = .int .u8 ∧ l.length ≤ 140737488355328 ∧ K (.sl s.nx 0 0 l.length) ⟨s.e, (s.nx, .row false 0 false 1 l.length fun i => .int .u8 ((l.getD i 0).toNat : Int)) :: s.h, s.nx + 1⟩
    | _, _, _ => False
  | .binOp .eql t x y _ => match (E.tt t).k, ev E s x, ev E s y with
    | .slc _, .nils, .nils => K (.bool true) s
    | .slc _, .ro _ _ n _, .nils => ∀ b : Bool, (b = true → n = 0) → K (.bool b) s
    | _, _, _ => False
  | _ => False

end Go.Proofs.YtmcinfbckdiaoaaGreatDoor.Lv

set_option linter.unusedVariables false
set_option linter.unusedSimpArgs false
namespace Go.Proofs.YtmcinfbckdiaoaaGreatDoor.Lv
open Go Go.RowKit

theorem lookB_up (b : Nat) (x : Blk) : ∀ (h : Hp) (b' : Nat), lookB (up h b x) b' = if b' = b ∧ (lookB h b).isSome = true then some x else lookB h b'
  | [], b' => by simp [up, lookB]
  | (c, y) :: r, b' => by
    simp only [up]
    by_cases hb : b = c
    · subst hb
      simp only [if_true, lookB]
      by_cases h : b' = b <;> simp [h]
    · simp only [if_neg hb, lookB, lookB_up b x r b']
      by_cases h : b' = c
      · subst h
        simp [Ne.symm hb]
      · simp only [if_neg h]

theorem BlkAt.mono {H H' : Hp} {φ φ' : Ph} {S : Nat → Prop} {w w' : World} (hx : HpExt H φ H' φ') (hk : Kept S w w') {b : Nat} (hph : φ' b = φ b) (hw : ∀ c t, φ b = some (c, t) → w'.heap[c]? = w.heap[c]?) :
    ∀ {x : Blk}, BlkAt H φ S w b x → BlkAt H' φ' S w' b x
  | .var ag sz d, h => by
    obtain ⟨c, t, h1, h2, x, vs, e, lo, hi, h3, h4, h5, h6, h7⟩ := h
    exact ⟨c, t, hph.trans h1, h2, x, vs, e, lo, hi, (hw c t h1).trans h3, h4, h5, h6, RepV.mono hx hk (fun _ h => h) _ _ h7⟩
  | .row fz ver ag sz n f, h => by
    refine ⟨fun e => h.1 (hph.symm.trans e), fun c tot e => ?_⟩
    have e' := hph.symm.trans e
    obtain ⟨h1, h2, h3, h4, vs, ty, lo, hi, h5, h6, h7, h8⟩ := h.2 c tot e'
    refine ⟨h1, h2, h3, h4, vs, ty, lo, hi, (hw c tot e').trans h5, h6, h7, fun i hi => ?_⟩
    obtain ⟨x, g1, g2⟩ := h8 i hi
    exact ⟨x, g1, Rep0.mono hk (fun _ h => h) _ _ g2⟩

structure Turn (B : Base) (s : St) (φ : Ph) (S : Nat → Prop) (w : World) (b : Nat) (H' : Hp) (φ' : Ph) (nx' : Nat) (w1 : World) : Prop where
  same : ∀ b', b' ≠ b → lookB H' b' = lookB s.h b' ∧ φ' b' = φ b'
  ext : (∀ ag sz d, lookB s.h b = some (.var ag sz d) → (∃ d', lookB H' b = some (.var ag sz d')) ∧ φ' b = φ b) ∧
    (∀ fz ver ag sz m f, lookB s.h b = some (.row fz ver ag sz m f) → ∃ fz' ver' m' f', lookB H' b = some (.row fz' ver' ag sz m' f') ∧ ver ≤ ver' ∧ (ver = ver' → m ≤ m' ∧ φ' b = φ b))
  at_ : ∀ c t, φ' b = some (c, t) → c < w1.heap.size ∧ (B.w0.heap.size ≤ c ∨ B.G c) ∧ (c = w.heap.size ∨ ∃ x t', lookB s.h b = some x ∧ φ b = some (c, t'))
  os : w1.os = w.os
  tape : w1.tape = w.tape
  output : w1.output = w.output
  size : w.heap.size ≤ w1.heap.size
  block : ∀ k, k < w.heap.size → (∀ x c t, lookB s.h b = some x → φ b = some (c, t) → k ≠ c) → w1.heap[k]? = w.heap[k]?
  safe : ∀ x c t, lookB s.h b = some x → φ b = some (c, t) → ¬ S c
  nx : ∀ b' x, lookB H' b' = some x → b' < nx'
  fresh : lookB s.h b = none → b = s.nx
  nxm : s.nx ≤ nx'

theorem Turn.hpext {B : Base} {s : St} {φ : Ph} {S : Nat → Prop} {w : World} {b : Nat} {H' : Hp} {φ' : Ph} {nx' : Nat} {w1 : World} (t : Turn B s φ S w b H' φ' nx' w1) : HpExt s.h φ H' φ' := fun b' => by
  by_cases hb : b' = b
  · subst hb; exact t.ext
  · obtain ⟨h1, h2⟩ := t.same b' hb
    exact ⟨fun ag sz d h => ⟨⟨d, h1.trans h⟩, h2⟩, fun fz ver ag sz m f h => ⟨fz, ver, m, f, h1.trans h, Nat.le_refl _, fun _ => ⟨Nat.le_refl _, h2⟩⟩⟩
theorem Turn.kept {B : Base} {s : St} {φ : Ph} {S : Nat → Prop} {w : World} {b : Nat} {H' : Hp} {φ' : Ph} {nx' : Nat} {w1 : World} (t : Turn B s φ S w b H' φ' nx' w1) (hs : ∀ b, S b → b < w.heap.size) : Kept S w w1 := fun k hk =>
  t.block k (hs k hk) fun x c t' h1 h2 e => t.safe x c t' h1 h2 (e ▸ hk)

theorem Turn.rel {B : Base} {s : St} {φ : Ph} {S : Nat → Prop} {a : Act} {w : World} {b : Nat} {H' : Hp} {φ' : Ph} {nx' : Nat} {w1 : World} (hr : Rel B s φ S a w) (t : Turn B s φ S w b H' φ' nx' w1)
    (hb : ∀ x, lookB H' b = some x → BlkAt H' φ' S w1 b x) : Rel B ⟨s.e, H', nx'⟩ φ' S a w1 := by
  have hx := t.hpext
  have hk := t.kept hr.slt
  refine ⟨fun i => RepV.mono hx hk (fun _ h => h) _ _ (hr.env i), hr.size, ⟨fun b' x h => ?_, fun b1 b2 x1 x2 c t1 t2 l1 l2 p1 p2 => ?_⟩, t.nx, fun b' h => Nat.lt_of_lt_of_le (hr.slt b' h) t.size, fun b' x c t' l p => ?_, fun b' x c t' l p => ?_, hr.s0, hr.s1, ?_, hr.ext.trans hx (fun b' hb' => ?_), Nat.le_trans hr.nx0 t.nxm, hr.def0.move fun D hD _ hS ho => ⟨t.block D hD fun x c t' l p e => ho b x c t' l p e.symm, hS, fun b' x c t' l p e => ?_⟩⟩
  · by_cases e : b' = b
    · subst e; exact hb x h
    · obtain ⟨h1, h2⟩ := t.same b' e
      refine BlkAt.mono hx hk h2 (fun c t' hp => ?_) (hr.hp.blk b' x (h1.symm.trans h))
      refine t.block c (hr.plt b' x c t' (h1.symm.trans h) hp) fun y c2 t2 l2 p2 ec => ?_
      subst ec
      exact e (hr.hp.inj b' b x y c t' t2 (h1.symm.trans h) l2 hp p2)
  · have key : ∀ b2 x2 t1 t2, b2 ≠ b → lookB H' b2 = some x2 → φ' b = some (c, t1) → φ' b2 = some (c, t2) → False := by
      intro b2 x2 t1 t2 e l2 p1 p2
      obtain ⟨h1, h2⟩ := t.same b2 e
      have l2' := h1.symm.trans l2
      have p2' := h2.symm.trans p2
      obtain ⟨_, _, h3⟩ := t.at_ c t1 p1
      have hlt := hr.plt b2 x2 c t2 l2' p2'
      rcases h3 with h3 | ⟨x, t', l, p⟩
      · omega
      · exact e (hr.hp.inj b2 b x2 x c t2 t' l2' l p2' p)
    by_cases e1 : b1 = b
    · by_cases e2 : b2 = b
      · rw [e1, e2]
      · subst e1; exact (key b2 x2 t1 t2 e2 l2 p1 p2).elim
    · by_cases e2 : b2 = b
      · subst e2; exact (key b1 x1 t2 t1 e1 l1 p2 p1).elim
      · obtain ⟨h1, h2⟩ := t.same b1 e1
        obtain ⟨h3, h4⟩ := t.same b2 e2
        exact hr.hp.inj b1 b2 x1 x2 c t1 t2 (h1.symm.trans l1) (h3.symm.trans l2) (h2.symm.trans p1) (h4.symm.trans p2)
  · by_cases e : b' = b
    · subst e; exact (t.at_ c t' p).1
    · obtain ⟨h1, h2⟩ := t.same b' e
      exact Nat.lt_of_lt_of_le (hr.plt b' x c t' (h1.symm.trans l) (h2.symm.trans p)) t.size
  · by_cases e : b' = b
    · subst e; exact (t.at_ c t' p).2.1
    · obtain ⟨h1, h2⟩ := t.same b' e
      exact hr.old b' x c t' (h1.symm.trans l) (h2.symm.trans p)
  · have hbl := hr.below
    refine ⟨t.os.trans hbl.os, t.tape.trans hbl.tape, t.output.trans hbl.output, Nat.le_trans hbl.size t.size, fun k hk hG => ?_⟩
    rw [t.block k (Nat.lt_of_lt_of_le hk hbl.size) fun x c t' l p e => by rcases hr.old b x c t' l p with h | h; omega; exact hG (e ▸ h)]
    exact hbl.block k hk hG
  · by_cases e : b' = b
    · cases hl : lookB s.h b' with
      | some x => exact .inl rfl
      | none =>
        have hb := t.fresh (e ▸ hl)
        refine .inr ?_
        cases hl0 : lookB B.h0 b' with
        | none => rfl
        | some x =>
          have h1 := mx_lt hl0
          have h2 := hr.nx0
          omega
    · rw [(t.same b' e).1] at hb'
      exact .inl hb'
  · subst e
    by_cases eb : b' = b
    · subst eb
      rcases (t.at_ c t' p).2.2 with h1 | ⟨y, t2, h1, h2⟩
      · omega
      · exact ho b' y c t2 h1 h2 rfl
    · obtain ⟨h1, h2⟩ := t.same b' eb
      exact ho b' x c t' (h1.symm.trans l) (h2.symm.trans p) rfl

/-- A new block. -/
def phUp (φ : Ph) (b : Nat) (p : Option (Nat × Nat)) : Ph := fun b' => if b' = b then p else φ b'
theorem turn_new {B : Base} {s : St} {φ : Ph} {S : Nat → Prop} {a : Act} {w : World} (hr : Rel B s φ S a w) (x : Blk) (p : Option (Nat × Nat)) (hp : ∀ c t, p = some (c, t) → c = w.heap.size) {w1 : World}
    (h1 : w1.os = w.os) (h2 : w1.tape = w.tape) (h3 : w1.output = w.output) (h4 : w.heap.size ≤ w1.heap.size) (h5 : ∀ k, k < w.heap.size → w1.heap[k]? = w.heap[k]?) (h6 : p ≠ none → w.heap.size < w1.heap.size) :
    Turn B s φ S w s.nx ((s.nx, x) :: s.h) (phUp φ s.nx p) (s.nx + 1) w1 := by
  have hno : ∀ y, lookB s.h s.nx = some y → False := fun y h => Nat.lt_irrefl _ (hr.nx _ _ h)
  refine ⟨fun b' e => ⟨by simp [lookB, e], by simp [phUp, e]⟩, ⟨fun ag sz d h => (hno _ h).elim, fun fz ver ag sz m f h => (hno _ h).elim⟩, fun c t e => ?_, h1, h2, h3, h4, fun k hk _ => h5 k hk, fun y c t l => (hno _ l).elim, fun b' y l => ?_, fun _ => rfl, Nat.le_succ _⟩
  · simp only [phUp, if_true] at e
    obtain rfl := hp c t e
    exact ⟨h6 (by rw [e]; simp), .inl hr.below.size, .inl rfl⟩
  · simp only [lookB] at l
    split at l
    · omega
    · exact Nat.lt_succ_of_lt (hr.nx _ _ l)

/-- One of the own blocks turned, in its place or elsewhere. -/
theorem turn_up {B : Base} {s : St} {φ : Ph} {S : Nat → Prop} {a : Act} {w : World} (hr : Rel B s φ S a w) {b : Nat} {y x : Blk} (hl : lookB s.h b = some y) (p : Option (Nat × Nat)) {w1 : World}
    (hsafe : ∀ c t, φ b = some (c, t) → ¬ S c)
    (hext : (∀ ag sz d, y = .var ag sz d → (∃ d', x = .var ag sz d') ∧ p = φ b) ∧ (∀ fz ver ag sz m f, y = .row fz ver ag sz m f → ∃ fz' ver' m' f', x = .row fz' ver' ag sz m' f' ∧ ver ≤ ver' ∧ (ver = ver' → m ≤ m' ∧ p = φ b)))
    (hp : ∀ c t, p = some (c, t) → c = w.heap.size ∧ w.heap.size < w1.heap.size ∨ ∃ t', φ b = some (c, t'))
    (h1 : w1.os = w.os) (h2 : w1.tape = w.tape) (h3 : w1.output = w.output) (h4 : w.heap.size ≤ w1.heap.size) (h5 : ∀ k, k < w.heap.size → (∀ c t, φ b = some (c, t) → k ≠ c) → w1.heap[k]? = w.heap[k]?) :
    Turn B s φ S w b (up s.h b x) (phUp φ b p) s.nx w1 := by
  have hlu : lookB (up s.h b x) b = some x := by rw [lookB_up]; simp [hl]
  have hne : ∀ b', b' ≠ b → lookB (up s.h b x) b' = lookB s.h b' := fun b' e => by rw [lookB_up]; simp [e]
  refine ⟨fun b' e => ⟨hne b' e, by simp [phUp, e]⟩, ⟨fun ag sz d h => ?_, fun fz ver ag sz m f h => ?_⟩, fun c t e => ?_, h1, h2, h3, h4, fun k hk h => h5 k hk fun c t e => h y c t hl e, fun y' c t l e => hsafe c t e, fun b' z l => ?_, fun e => (by rw [hl] at e; cases e), Nat.le_refl _⟩
  · rw [hl] at h
    obtain ⟨⟨d', e⟩, e2⟩ := hext.1 ag sz d (Option.some.inj h)
    exact ⟨⟨d', by rw [hlu, e]⟩, by simp [phUp, e2]⟩
  · rw [hl] at h
    obtain ⟨fz', ver', m', f', e, h6, h7⟩ := hext.2 fz ver ag sz m f (Option.some.inj h)
    exact ⟨fz', ver', m', f', by rw [hlu, e], h6, fun e => by simpa [phUp] using h7 e⟩
  · simp only [phUp, if_true] at e
    rcases hp c t e with ⟨rfl, h⟩ | ⟨t', h⟩
    · exact ⟨h, .inl hr.below.size, .inl rfl⟩
    · exact ⟨Nat.lt_of_lt_of_le (hr.plt b y c t' hl h) h4, hr.old b y c t' hl h, .inr ⟨y, t', hl, h⟩⟩
  · by_cases e : b' = b
    · subst e; exact hr.nx _ _ hl
    · exact hr.nx _ _ ((hne b' e).symm.trans l)

end Go.Proofs.YtmcinfbckdiaoaaGreatDoor.Lv

set_option linter.unusedVariables false
set_option linter.unusedSimpArgs false
namespace Go.Proofs.YtmcinfbckdiaoaaGreatDoor.Lv
open Go Go.RowKit

section
variable {H : Hp} {φ : Ph} {S : Nat → Prop} {w : World}
theorem one_cell {d : D} {v : Value} (hr : RepV H φ S w d v) (h : one H d = true) : v.oneCell' = true := by
  cases d <;> simp only [one, Bool.false_eq_true] at h
  case sl b ver off n =>
    simp only [RepV] at hr
    obtain ⟨fz, ver', ag, sz, m, f, hl, hv, hr⟩ := hr
    simp only [cur, hl, beq_iff_eq] at h
    obtain ⟨_, a, cap, rfl, _⟩ := hr h.symm
    rfl
  case el b ver i fo =>
    obtain ⟨fz, ag, sz, m, f, hl, h3, c, t', hph, rfl⟩ := el_cur (by simpa only [RepV] using hr) h
    rfl
  all_goals simp only [RepV, Rep0] at hr
  case int => subst hr; rfl
  case bool => subst hr; rfl
  case str => subst hr; rfl
  case nilp => subst hr; rfl
  case nils => subst hr; rfl
  case nilm => subst hr; rfl
  case nilf => subst hr; rfl
  case gl => subst hr; rfl
  case ro => obtain ⟨a, cap, rfl, _⟩ := hr; rfl
  case ra => obtain ⟨b, o, x, vs, rfl, _⟩ := hr; rfl
  case ad => obtain ⟨ag, sz, d, c, t, _, _, rfl⟩ := hr; rfl
  case vs => obtain ⟨ag, sz, d, c, t, a, cap, _, _, rfl, _⟩ := hr; rfl
  case fn => obtain ⟨vs, rfl, _⟩ := hr; rfl
theorem all_one : ∀ {ds : List D} {vs : List Value}, RepVs H φ S w ds vs → ds.all (one H) = true → ∀ y ∈ vs, y.oneCell' = true
  | [], vs, h, _, y, hy => by simp only [RepVs] at h; subst h; cases hy
  | d :: ds, vs, h, h1, y, hy => by
    simp only [RepVs] at h
    obtain ⟨v, vs', rfl, h2, h3⟩ := h
    simp only [List.all_cons, Bool.and_eq_true] at h1
    rcases List.mem_cons.1 hy with rfl | hy
    · exact one_cell h2 h1.1
    · exact all_one h3 h1.2 y hy
theorem chk_cells {ag : Bool} {sz : Nat} {d : D} {v : Value} (hr : RepV H φ S w d v) (h : chk H ag sz d = true) :
    ∃ vs, v.cells = ⟨vs⟩ ∧ Cells ag v vs ∧ vs.length = sz ∧ (∀ y ∈ vs, y.oneCell' = true) := by
  unfold chk at h
  split at h
  · rename_i cs hcs
    simp only [Bool.and_eq_true, beq_iff_eq] at h
    obtain ⟨hl, h1⟩ := h
    unfold cellsOf at hcs
    cases ag with
    | true =>
      simp only [if_true] at hcs
      cases d <;> simp only [asAgg, Option.some.injEq, reduceCtorEq] at hcs
      subst hcs
      simp only [RepV] at hr
      obtain ⟨vs, rfl, hr⟩ := hr
      exact ⟨vs, rfl, rfl, by rw [hr.length]; exact hl, all_one hr h1⟩
    | false =>
      simp only [Bool.false_eq_true, if_false, Option.some.injEq] at hcs
      subst hcs
      simp only [List.all_cons, List.all_nil, Bool.and_true] at h1
      have := one_cell hr h1
      refine ⟨[v], ?_, rfl, by simpa using hl, by simpa using this⟩
      cases v <;> first | rfl | simp [Value.oneCell'] at this
  · cases h
mutual
theorem cl_rep : ∀ (d : D) (v : Value), RepV H φ S w d v → cl d = true → Rep0 S w d v
  | .int .., _, h, _ | .bool .., _, h, _ | .str .., _, h, _ | .nilp, _, h, _ | .nils, _, h, _ | .nilm, _, h, _ | .nilf, _, h, _ | .gl .., _, h, _ | .unk, _, h, _ | .ro .., _, h, _ | .ra .., _, h, _ => by simpa only [RepV] using h
  | .sl .., _, _, h | .ad .., _, _, h | .el .., _, _, h | .vs .., _, _, h => by simp only [cl, Bool.false_eq_true] at h
  | .agg cs, v, h, hc => by
    simp only [Rep0, RepV, cl] at h hc ⊢
    obtain ⟨vs, e, h⟩ := h
    exact ⟨vs, e, cls_rep cs vs h hc⟩
  | .tup cs, v, h, hc => by
    simp only [Rep0, RepV, cl] at h hc ⊢
    obtain ⟨vs, e, h⟩ := h
    exact ⟨vs, e, cls_rep cs vs h hc⟩
  | .fn f cs, v, h, hc => by
    simp only [Rep0, RepV, cl] at h hc ⊢
    obtain ⟨vs, e, h⟩ := h
    exact ⟨vs, e, cls_rep cs vs h hc⟩
theorem cls_rep : ∀ (ds : List D) (vs : List Value), RepVs H φ S w ds vs → cls ds = true → Rep0s S w ds vs
  | [], vs, h, _ => by simpa only [Rep0s, RepVs] using h
  | d :: ds, vs, h, hc => by
    simp only [Rep0s, RepVs, cls, Bool.and_eq_true] at h hc ⊢
    obtain ⟨v, vs', e, h1, h2⟩ := h
    exact ⟨v, vs', e, cl_rep d v h1 hc.1, cls_rep ds vs' h2 hc.2⟩
end
end

theorem store_run (P : Program) {c o : Nat} {e : TypeId} {lo hi : Nat} : ∀ (us : List Value) (i : Nat) (vs : List Value) (w : World), w.heap[c]? = some (.cells ⟨vs⟩ e (lo, hi)) → o + i + us.length ≤ vs.length →
    (∀ j, j < vs.length → ¬ (lo ≤ j ∧ j < hi)) → (∀ y ∈ us, y.oneCell' = true) →
    (storeCells ⟨c, o, none⟩ us i).run P w = .ok () (w.setRow c (vs.take (o + i) ++ us ++ vs.drop (o + i + us.length)).toArray)
  | [], i, vs, w, hg, _, _, _ => by
    simp only [storeCells, List.append_nil, List.length_nil, Nat.add_zero, List.take_append_drop]
    rw [setRow_self w c vs.toArray e (lo, hi) hg]
    rfl
  | v :: rest, i, vs, w, hg, hl, hf, h1 => by
    have hi' : o + i < vs.length := by simp at hl; omega
    have hcell : w.cell? ⟨c, o + i, none⟩ = some vs[o + i] := by simp [World.cell?, hg, hi']
    have hfro : w.frozen? ⟨c, o + i, none⟩ = false := by
      have := hf (o + i) hi'
      simp only [World.frozen?, hg]
      rw [Bool.and_eq_false_iff, decide_eq_false_iff_not, decide_eq_false_iff_not]
      by_cases hlo : lo ≤ o + i
      · exact .inr fun h => this ⟨hlo, h⟩
      · exact .inl hlo
    have hst : (store ((⟨c, o, none⟩ : Addr).add i) v).run P w = .ok () (w.setRow c (vs.set (o + i) v).toArray) := by
      rw [add_at, run_store P w _ v _ (h1 v (by simp)), hcell]
      simp [hfro, setCell_eq_setRow w c (o + i) vs.toArray e (lo, hi) v hg]
    have ih := store_run P rest (i + 1) (vs.set (o + i) v) (w.setRow c (vs.set (o + i) v).toArray) (setRow_heap w c vs.toArray _ e _ hg) (by simp at hl ⊢; omega : o + (i + 1) + rest.length ≤ (vs.set (o + i) v).length) (by simpa using hf) (fun x hx => h1 x (by simp [hx]))
    simp only [storeCells, Sem.run_bind, hst, Result.andThen_ok, ih, setRow_setRow]
    congr 3
    have e := list_seg_step vs (o + i) v rest (by simp at hl ⊢; omega)
    simpa [Nat.add_assoc] using e

/-- What a step that makes or writes memory comes to. -/
def Goes (E : Ctx) (B : Base) (s : St) (S : Nat → Prop) (a : Act) (w : World) (o : Oper) (K : D → St → Prop) : Prop :=
  ∃ d s' φ' n v w', (execOp a.eval o).run E.P w = .ok n w' ∧ ((n = .value v) ∨ (n = .skip ∧ v = undef)) ∧ K d s' ∧ s'.e = s.e ∧ Rel B s' φ' S a w' ∧ RepV s'.h φ' S w' d v

section
variable {E : Ctx} {B : Base} {s : St} {φ : Ph} {S : Nat → Prop} {a : Act} {w : World}

/-- A new variable. -/
theorem var_new (hr : Rel B s φ S a w) {t : Nat} {ag : Bool} {sz : Nat} {d : D} {v : Value} (hv : RepV s.h φ S w d v) (hc : chk s.h ag sz d = true) :
    ∃ φ', Rel B ⟨s.e, (s.nx, .var ag sz d) :: s.h, s.nx + 1⟩ φ' S a (w.alloc (.cells v.cells t)) ∧ RepV ((s.nx, .var ag sz d) :: s.h) φ' S (w.alloc (.cells v.cells t)) (.ad s.nx 0) (.pointer (some ⟨w.heap.size, 0, none⟩)) := by
  obtain ⟨vs, h1, h2, h3, h4⟩ := chk_cells hv hc
  have hT := turn_new hr (.var ag sz d) (some (w.heap.size, sz)) (fun c t e => by cases e; rfl) (w1 := w.alloc (.cells v.cells t)) rfl rfl rfl (by simp) (fun k hk => Below.heap_alloc w _ k hk) (fun _ => by simp)
  refine ⟨_, hT.rel hr fun x hx => ?_, ?_⟩
  · simp only [lookB, if_true, Option.some.injEq] at hx
    subst hx
    refine ⟨w.heap.size, sz, by simp [phUp], fun h => Nat.lt_irrefl _ (hr.slt _ h), v, vs, t, 0, 0, ?_, h3, ⟨by simp, h4⟩, h2, ?_⟩
    · rw [h1]; exact Go.heap_alloc_new w _
    · exact RepV.mono hT.hpext (hT.kept hr.slt) (fun _ h => h) _ _ hv
  · simp only [RepV]
    exact ⟨ag, sz, d, w.heap.size, sz, by simp [lookB], by simp [phUp], rfl⟩

theorem box_sound (hr : Rel B s φ S a w) (hev : ∀ x, RepV s.h φ S w (ev E s x) (a.eval x)) {o : Oper} {t : Nat} {x : Operand} (ho : o.op = .box t x) {K : D → St → Prop} (h : ef E s o.op K) : Goes E B s S a w o K := by
  rw [ho] at h
  simp only [ef] at h
  obtain ⟨hk, hc, hK⟩ := h
  obtain ⟨φ', h1, h2⟩ := var_new (t := t) hr (hev x) hc
  refine ⟨_, _, φ', .value (.pointer (some ⟨w.heap.size, 0, none⟩)), _, _, ?_, .inl rfl, hK, rfl, h1, h2⟩
  simp [execOp, ho, Instr.box, newVar, newRow]

theorem alloc_sound (hr : Rel B s φ S a w) {o : Oper} {t : Nat} (ho : o.op = .alloc t) {K : D → St → Prop} (h : ef E s o.op K) : Goes E B s S a w o K := by
  rw [ho] at h
  simp only [ef] at h
  obtain ⟨hz, hc, hK⟩ := h
  have hk : (E.tt t).k ≠ .bad := by
    intro e
    rw [E.htt] at e hz
    unfold tiOf at e hz
    split at e
    · rename_i d _ _; cases d <;> simp [tkOf] at e
    · rename_i hno
      revert hz
      cases h1 : E.P.info? t <;> cases h2 : E.P.underlying t <;> simp
      exact (hno _ _ h1 h2).elim
  obtain ⟨i, ds, hi, hu, he⟩ := ti_of hk
  have hz' : i.zero.isSome = true := by rw [he] at hz; exact hz
  obtain ⟨z, hz'⟩ := Option.isSome_iff_exists.1 hz'
  have hzd : (E.tt t).zero = ofVal z := by rw [he]; simp [hz']
  have hv : RepV s.h φ S w (E.tt t).zero z := by rw [hzd]; exact Rep0.toV _ _ (ofVal_rep z)
  obtain ⟨φ', h1, h2⟩ := var_new (t := t) hr hv hc
  refine ⟨_, _, φ', .value (.pointer (some ⟨w.heap.size, 0, none⟩)), _, _, ?_, .inl rfl, hK, rfl, h1, h2⟩
  simp [execOp, ho, Instr.alloc, zeroValue, run_info hi, hz', newVar, newRow]
theorem storeVar_run {t : Nat} (hk : (E.tt t).k ≠ .bad) {c off : Nat} {us vs : List Value} {e : TypeId} {lo hi : Nat} {v : Value} (hc : v.cells = ⟨us⟩) (hl : us.length = (E.tt t).sz) (hg : w.heap[c]? = some (.cells ⟨vs⟩ e (lo, hi)))
    (hle : off + us.length ≤ vs.length) (hf : ∀ j, j < vs.length → ¬ (lo ≤ j ∧ j < hi)) (h1 : ∀ y ∈ us, y.oneCell' = true) :
    (Instr.storeAt t (.pointer (some ⟨c, off, none⟩)) v).run E.P w = .ok () (w.setRow c (vs.take off ++ us ++ vs.drop (off + us.length)).toArray) := by
  obtain ⟨i, ds, hi', hu, he⟩ := ti_of hk
  have hsz : us.length = i.size := by rw [hl, he]
  have hs := store_run E.P (o := off) us 0 vs w hg (by omega) hf h1
  simp only [Nat.add_zero] at hs
  simp [Instr.storeAt, Instr.sureAddr, storeVar, hc, run_size hi', hsz, hs]

theorem splice_get {α : Type} {vs us : List α} {p : Nat} (h : p + us.length ≤ vs.length) (k : Nat) :
    (vs.take p ++ us ++ vs.drop (p + us.length))[k]? = if p ≤ k ∧ k < p + us.length then us[k - p]? else vs[k]? := by
  rw [List.append_assoc, List.getElem?_append]
  simp only [List.length_take, Nat.min_eq_left (show p ≤ vs.length by omega)]
  by_cases h1 : k < p
  · rw [if_pos h1, if_neg (by omega), List.getElem?_take, if_pos h1]
  · rw [if_neg h1, List.getElem?_append]
    by_cases h2 : k - p < us.length
    · rw [if_pos h2, if_pos (by omega)]
    · rw [if_neg h2, if_neg (by omega), List.getElem?_drop]
      congr 1
      omega
theorem splice_seg {α : Type} {vs us : List α} {q sz fo : Nat} (h : q + fo + us.length ≤ vs.length) (h2 : fo + us.length ≤ sz) :
    (((vs.take (q + fo) ++ us ++ vs.drop (q + fo + us.length)).drop q).take sz) = ((vs.drop q).take sz).take fo ++ us ++ ((vs.drop q).take sz).drop (fo + us.length) := by
  apply List.ext_getElem?
  intro k
  rw [splice_get (by simp; omega)]
  simp only [List.getElem?_take, List.getElem?_drop]
  rw [splice_get h]
  by_cases hk : k < sz
  · rw [if_pos hk]
    by_cases hm : fo ≤ k ∧ k < fo + us.length
    · rw [if_pos (by omega), if_pos hm]
      congr 1
      omega
    · rw [if_neg (by omega), if_neg hm]
      simp [hk]
  · rw [if_neg hk, if_neg (by omega)]
    simp [hk]
theorem splice_other {α : Type} {vs us : List α} {p q sz : Nat} (h : p + us.length ≤ vs.length) (h2 : q + sz ≤ p ∨ p + us.length ≤ q) :
    (((vs.take p ++ us ++ vs.drop (p + us.length)).drop q).take sz) = (vs.drop q).take sz := by
  apply List.ext_getElem?
  intro k
  simp only [List.getElem?_take, List.getElem?_drop]
  rw [splice_get h]
  by_cases hk : k < sz
  · rw [if_pos hk, if_pos hk, if_neg (by omega)]
  · rw [if_neg hk, if_neg hk]
mutual
theorem cl_of_rep {w : World} : ∀ (d : D) (v : Value), Rep0 S w d v → cl d = true
  | .int .., _, h | .bool .., _, h | .str .., _, h | .nilp, _, h | .nils, _, h | .nilm, _, h | .nilf, _, h | .gl .., _, h | .unk, _, h | .ro .., _, h | .ra .., _, h => by simp only [cl]
  | .sl .., _, h | .ad .., _, h | .el .., _, h | .vs .., _, h => by simp only [Rep0] at h
  | .agg cs, v, h => by simp only [Rep0, cl] at h ⊢; obtain ⟨vs, _, h⟩ := h; exact cls_of_rep cs vs h
  | .tup cs, v, h => by simp only [Rep0, cl] at h ⊢; obtain ⟨vs, _, h⟩ := h; exact cls_of_rep cs vs h
  | .fn f cs, v, h => by simp only [Rep0, cl] at h ⊢; obtain ⟨vs, _, h⟩ := h; exact cls_of_rep cs vs h
theorem cls_of_rep {w : World} : ∀ (ds : List D) (vs : List Value), Rep0s S w ds vs → cls ds = true
  | [], _, _ => rfl
  | d :: ds, vs, h => by
    simp only [Rep0s, cls, Bool.and_eq_true] at h ⊢
    obtain ⟨v, vs', _, h1, h2⟩ := h
    exact ⟨cl_of_rep d v h1, cls_of_rep ds vs' h2⟩
end
theorem cls_iff : ∀ ds : List D, cls ds = true ↔ ∀ d ∈ ds, cl d = true
  | [] => by simp [cls]
  | d :: ds => by simp [cls, cls_iff ds]
theorem cells_cl {ag : Bool} {d : D} {cs : List D} (h : cellsOf ag d = some cs) (hc : cl d = true) : cls cs = true := by
  unfold cellsOf at h
  cases ag with
  | true =>
    simp only [if_true] at h
    cases d <;> simp only [asAgg, Option.some.injEq, reduceCtorEq] at h
    subst h
    simpa only [cl] using hc
  | false =>
    simp only [Bool.false_eq_true, if_false, Option.some.injEq] at h
    subst h
    simp [cls, hc]
theorem wr_cl {ag ag' : Bool} {sz off n : Nat} {d v d' : D} {x : Value} {w : World} (hv : cl v = true) (h : wr ag' sz d off ag n v = some d') (hr : Rep0 S w d x) : cl d' = true := by
  unfold wr at h
  split at h
  · cases h; exact hv
  · cases hcs : cellsOf ag' d with
    | none => rw [hcs] at h; cases h
    | some cs =>
      cases hvs : cellsOf ag v with
      | none => rw [hcs, hvs] at h; cases h
      | some es =>
        rw [hcs, hvs] at h
        simp only [Option.bind_some] at h
        have r1 := (cls_iff _).1 (cells_cl hcs (cl_of_rep d x hr))
        have r2 := (cls_iff _).1 (cells_cl hvs hv)
        split at h
        · split at h
          · simp only [Option.some.injEq] at h
            subst h
            simp only [cl, cls_iff, List.mem_append]
            rintro d ((hd | hd) | hd)
            · exact r1 d (List.mem_of_mem_take hd)
            · exact r2 d hd
            · exact r1 d (List.mem_of_mem_drop hd)
          · exact r2 d' (List.mem_of_mem_head? h)
        · cases h

/-- What is written over a part, of what it is cells then. -/
theorem wr_rep {H : Hp} {φ : Ph} {ag ag' : Bool} {sz off n : Nat} {d v d' : D} {x y : Value} {vs us : List Value} (hl : vs.length = sz) (hul : us.length = n) (hc : Cells ag' x vs) (hr : RepV H φ S w d x) (hcy : Cells ag y us) (hry : RepV H φ S w v y)
    (h : wr ag' sz d off ag n v = some d') : off + n ≤ vs.length ∧ ∃ z, Cells ag' z (vs.take off ++ us ++ vs.drop (off + n)) ∧ RepV H φ S w d' z := by
  unfold wr at h
  split at h
  · rename_i hw
    simp only [Bool.and_eq_true, beq_iff_eq] at hw
    obtain ⟨⟨⟨rfl, rfl⟩, rfl⟩, rfl⟩ := hw
    simp only [Option.some.injEq] at h
    subst h
    refine ⟨by omega, y, ?_, hry⟩
    rw [List.drop_of_length_le (by omega)]
    simpa using hcy
  · cases hcs : cellsOf ag' d with
    | none => rw [hcs] at h; cases h
    | some cs =>
      cases hvs : cellsOf ag v with
      | none => rw [hcs, hvs] at h; cases h
      | some es =>
        rw [hcs, hvs] at h
        simp only [Option.bind_some] at h
        have r1 := cells_rep hc hr hcs
        have r2 := cells_rep hcy hry hvs
        split at h
        · rename_i hle
          rw [← r1.length] at hle
          refine ⟨hle, ?_⟩
          have r3 := ((r1.take off).append r2).append (r1.drop (off + n))
          cases ag' with
          | true =>
            simp only [if_true, Option.some.injEq] at h
            subst h
            exact ⟨_, rfl, by simp only [RepV]; exact ⟨_, rfl, r3⟩⟩
          | false =>
            simp only [Bool.false_eq_true, if_false] at h
            simp only [Cells, Bool.false_eq_true, if_false] at hc
            rw [hc] at hl hle
            simp only [List.length_singleton] at hl hle
            cases es with
            | nil => cases h
            | cons e0 er =>
              simp only [List.head?_cons, Option.some.injEq] at h
              subst h
              simp only [RepVs] at r2
              obtain ⟨u0, ur, rfl, q1, q2⟩ := r2
              simp only [List.length_cons] at hul
              obtain rfl : off = 0 := by omega
              obtain rfl : ur = [] := List.eq_nil_of_length_eq_zero (by omega)
              refine ⟨u0, ?_, q1⟩
              rw [hc, ← hul]
              simp [Cells]
        · cases h

theorem store_sound (hr : Rel B s φ S a w) (hev : ∀ x, RepV s.h φ S w (ev E s x) (a.eval x)) {o : Oper} {t : Nat} {ad x : Operand} (ho : o.op = .store t ad x) {K : D → St → Prop} (h : ef E s o.op K) : Goes E B s S a w o K := by
  have hun : RepV s.h φ S w (.tup []) undef := by simp only [RepV]; exact ⟨[], rfl, rfl⟩
  rw [ho] at h
  simp only [ef] at h
  obtain ⟨hk, hchk, h⟩ := h
  obtain ⟨us, hcu, hcells, hul, h1u⟩ := chk_cells (hev x) hchk
  split at h
  · rename_i b off e
    split at h
    · rename_i ag sz d hl
      obtain ⟨d', hw, hK⟩ := h
      have hx := hev ad
      rw [e] at hx
      simp only [RepV] at hx
      obtain ⟨ag', sz', d0, c, t0, hl', hph, hv⟩ := hx
      obtain ⟨c', t', hph', hns, y, vs, ty, lo, hi, hheap, hlen, ⟨hfz, h1c⟩, hcy, hry⟩ := hr.hp.blk b _ hl
      rw [hph] at hph'
      simp only [Option.some.injEq, Prod.mk.injEq] at hph'
      obtain ⟨rfl, rfl⟩ := hph'
      obtain ⟨hle, z, hcz, hrz⟩ := wr_rep hlen hul hcy hry hcells (hev x) hw
      rw [← hul] at hle hcz
      have hrun := storeVar_run (E := E) (w := w) hk hcu hul hheap hle (by rw [hlen]; exact hfz) h1u
      have hT := turn_up hr hl (x := .var ag sz d') (some (c, t0)) (w1 := w.setRow c (vs.take off ++ us ++ vs.drop (off + us.length)).toArray) (fun c' t' e' => by rw [hph] at e'; cases e'; exact hns)
        ⟨fun _ _ _ he => (by cases he; exact ⟨⟨_, rfl⟩, hph.symm⟩), fun _ _ _ _ _ _ he => by cases he⟩ (fun c' t' e' => by cases e'; exact .inr ⟨_, hph⟩) rfl rfl rfl (by simp) (fun k _ hne => setRow_other w c k _ (hne c t0 hph))
      refine ⟨_, _, _, .skip, _, _, ?_, .inr ⟨rfl, rfl⟩, hK, rfl, hT.rel hr fun q hq => ?_, ?_⟩
      · simp [execOp, ho, hv, hrun]
      · rw [lookB_up] at hq
        simp only [hl, Option.isSome_some, and_self, if_true, Option.some.injEq] at hq
        subst hq
        refine ⟨c, t0, by simp [phUp], hns, z, _, ty, lo, hi, setRow_heap w c ⟨vs⟩ _ ty (lo, hi) hheap, ?_, ⟨hfz, ?_⟩, hcz, RepV.mono hT.hpext (hT.kept hr.slt) (fun _ h => h) _ _ hrz⟩
        · simp; omega
        · intro y hy
          simp only [List.mem_append] at hy
          rcases hy with (hy | hy) | hy
          · exact h1c y (List.mem_of_mem_take hy)
          · exact h1u y hy
          · exact h1c y (List.mem_of_mem_drop hy)
      · exact RepV.mono hT.hpext (hT.kept hr.slt) (fun _ h => h) _ _ hun
    · exact h.elim
  · rename_i b ver i fo e
    split at h
    · rename_i ver' ag sz n f hl
      obtain ⟨rfl, hcl, d', hw, hK⟩ := h
      have hx := hev ad
      rw [e] at hx
      simp only [RepV] at hx
      obtain ⟨fz, ag0, sz0, m0, f0, hl0, hin, c, tot, hph, hv⟩ := el_cur hx (by simp [cur, hl])
      rw [hl] at hl0
      simp only [Option.some.injEq, Blk.row.injEq] at hl0
      obtain ⟨rfl, _, rfl, rfl, rfl, rfl⟩ := hl0
      obtain ⟨hS1, _, htot, hntot, vs, ty, lo, hi, hheap, hlen, ⟨hfz, h1c⟩, hels⟩ := (hr.hp.blk b _ hl).2 c tot hph
      have hns := hS1 rfl
      obtain ⟨y, hcy, hry⟩ := hels i hin
      have hisz : i * sz + sz ≤ vs.length := by
        rw [hlen]
        calc i * sz + sz = (i + 1) * sz := by rw [Nat.add_mul]; omega
          _ ≤ tot * sz := Nat.mul_le_mul_right _ (by omega)
      obtain ⟨hle, z, hcz, hrz⟩ := wr_rep (by simp; omega) hul hcy (Rep0.toV (H := s.h) (φ := φ) _ _ hry) hcells (hev x) hw
      simp only [List.length_take, List.length_drop] at hle
      rw [← hul] at hle hcz
      have hrun := storeVar_run (E := E) (w := w) hk hcu hul hheap (off := i * sz + fo) (by omega) (by rw [hlen]; exact hfz) h1u
      have hT := turn_up hr hl (x := .row false ver ag sz n fun j => if j = i then d' else f j) (some (c, tot)) (w1 := w.setRow c (vs.take (i * sz + fo) ++ us ++ vs.drop (i * sz + fo + us.length)).toArray)
        (fun c' t' e' => by rw [hph] at e'; cases e'; exact hns)
        ⟨fun _ _ _ he => (by cases he), fun _ _ _ _ _ _ he => (by cases he; exact ⟨_, _, _, _, rfl, Nat.le_refl _, fun _ => ⟨Nat.le_refl _, hph.symm⟩⟩)⟩ (fun c' t' e' => by cases e'; exact .inr ⟨_, hph⟩) rfl rfl rfl (by simp) (fun k _ hne => setRow_other w c k _ (hne c tot hph))
      have hkept := hT.kept hr.slt
      refine ⟨_, _, _, .skip, _, _, ?_, .inr ⟨rfl, rfl⟩, hK, rfl, hT.rel hr fun q hq => ?_, ?_⟩
      · simp [execOp, ho, hv, hrun]
      · rw [lookB_up] at hq
        simp only [hl, Option.isSome_some, and_self, if_true, Option.some.injEq] at hq
        subst hq
        refine ⟨fun e => by simp [phUp] at e, fun c' t' e' => ?_⟩
        simp only [phUp, if_true, Option.some.injEq, Prod.mk.injEq] at e'
        obtain ⟨rfl, rfl⟩ := e'
        refine ⟨fun _ => hns, fun h => (by cases h), htot, hntot, _, ty, lo, hi, setRow_heap w c ⟨vs⟩ _ ty (lo, hi) hheap, ?_, ⟨hfz, ?_⟩, fun j hj => ?_⟩
        · simp; omega
        · intro y hy
          simp only [List.mem_append] at hy
          rcases hy with (hy | hy) | hy
          · exact h1c y (List.mem_of_mem_take hy)
          · exact h1u y hy
          · exact h1c y (List.mem_of_mem_drop hy)
        · by_cases hji : j = i
          · subst hji
            refine ⟨z, ?_, ?_⟩
            · rw [splice_seg (by omega) (by omega)]
              exact hcz
            · simp only [if_true]
              have hd' : cl d' = true := wr_cl hcl hw hry
              exact cl_rep (H := s.h) (φ := φ) d' z (RepV.mono (HpExt.refl _ _) hkept (fun _ h => h) _ _ hrz) hd'
          · obtain ⟨y', g1, g2⟩ := hels j hj
            refine ⟨y', ?_, ?_⟩
            · rw [splice_other (by omega) ?_]
              · exact g1
              · rcases Nat.lt_or_gt_of_ne hji with h | h
                · left
                  calc j * sz + sz = (j + 1) * sz := by rw [Nat.add_mul]; omega
                    _ ≤ i * sz := Nat.mul_le_mul_right _ h
                    _ ≤ i * sz + fo := by omega
                · right
                  calc i * sz + fo + us.length ≤ i * sz + sz := by omega
                    _ = (i + 1) * sz := by rw [Nat.add_mul]; omega
                    _ ≤ j * sz := Nat.mul_le_mul_right _ h
            · simp only [if_neg hji]
              exact Rep0.mono hkept (fun _ h => h) _ _ g2
      · exact RepV.mono hT.hpext hkept (fun _ h => h) _ _ hun
    · exact h.elim
  · exact h.elim
end

end Go.Proofs.YtmcinfbckdiaoaaGreatDoor.Lv
