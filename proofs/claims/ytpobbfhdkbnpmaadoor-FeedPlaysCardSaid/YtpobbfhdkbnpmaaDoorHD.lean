/- The feed, in whichever pieces: the plain law. -/
import Derived.Test.YtpobbfhdkbnpmaaDoorHC
import Derived.Test.YtpobbfhdkbnpmaaDoorVE
set_option linter.unusedVariables false
set_option linter.unusedSimpArgs false
set_option maxRecDepth 100000
set_option maxHeartbeats 4000000
namespace Go.Proofs.YtpobbfhdkbnpmaaDoor.Lv
open Go Go.RowKit

/-- Segments one behind the other. -/
def strm : List (List UInt8) → List UInt8 → List UInt8
  | [], _ => []
  | x :: r, p => segPut p x ++ strm r (segDig p x)
/-- The digest behind them. -/
def digs_ : List (List UInt8) → List UInt8 → List UInt8
  | [], p => p
  | x :: r, p => digs_ r (segDig p x)
def seglen (x : List UInt8) : Nat := (vput x.length).length + x.length + 32
theorem segPut_len (p x : List UInt8) : (segPut p x).length = seglen x := by
  rw [segPut, List.length_append, List.length_append, segDig_len, seglen]
/-- A segment that is there whole is got. -/
theorem segGet_put {x p y : List UInt8} {most : Int} (h0 : 0 < x.length) (h1 : (x.length : Int) ≤ most) (h2 : x.length < 17179869184) :
    segGet (segPut p x ++ y) 0 p most = (x, seglen x, segDig p x, 0) := by
  have hv : vget (segPut p x ++ y) 0 = (x.length, (vput x.length).length, 0) := by
    have := vget_put (b := segPut p x ++ y) (a := 0) (m := x.length) (r := x ++ segDig p x ++ y) (by omega) (by omega) (by simp [segPut])
    simpa using this
  have hl := segPut_len p x
  unfold segGet
  rw [hv]
  simp only
  rw [if_neg (by simp), if_neg (by omega), if_neg (by omega), if_neg (by rw [List.length_append, hl, seglen]; omega)]
  have e1 : ((segPut p x ++ y).take ((vput x.length).length + x.length)).drop (vput x.length).length = x := by
    rw [List.take_append_of_le_length (by rw [hl, seglen]; omega), segPut, List.take_append_of_le_length (by simp), List.take_of_length_le (by simp), List.drop_left]
  have e2 : ((segPut p x ++ y).take ((vput x.length).length + x.length + 32)).drop ((vput x.length).length + x.length) = segDig p x := by
    rw [List.take_append_of_le_length (by rw [hl, seglen]; omega), List.take_of_length_le (by rw [hl, seglen]; omega), segPut]
    exact List.drop_left' (by simp)
  rw [e1, e2, if_neg (by simp)]
  rfl
/-- One that is not is too short. -/
theorem segGet_short {x p y z : List UInt8} {most : Int} (h0 : 0 < x.length) (h1 : (x.length : Int) ≤ most) (h2 : x.length < 17179869184) (h : y ++ z = segPut p x) (hz : z ≠ []) : segGet y 0 p most = ([], 0, [], 4) := by
  have hl := segPut_len p x
  rw [← h, List.length_append] at hl
  have hz0 : 0 < z.length := List.length_pos_iff.2 hz
  by_cases hy : y.length < (vput x.length).length
  · have e : y ++ z.take ((vput x.length).length - y.length) = vput x.length := by
      have : (y ++ z).take (vput x.length).length = vput x.length := by rw [h, segPut, List.append_assoc, List.take_left]
      rw [List.take_append, List.take_of_length_le (by omega)] at this
      exact this
    have hv := vget_short (b := y) (a := 0) (m := x.length) (by omega) (by omega) (by rw [List.drop_zero]; exact e) (by
      intro h3
      rw [h3, List.append_nil] at e
      rw [e] at hy
      omega)
    unfold segGet
    rw [show (0 : Int) = ((0 : Nat) : Int) from rfl, hv]
    rfl
  · have e : y = vput x.length ++ y.drop (vput x.length).length := by
      have h3 : (y ++ z).take (vput x.length).length = vput x.length := by rw [h, segPut, List.append_assoc, List.take_left]
      rw [List.take_append_of_le_length (by omega)] at h3
      conv => lhs; rw [← List.take_append_drop (vput x.length).length y, h3]
    have hv := vget_put (b := y) (a := 0) (m := x.length) (r := y.drop (vput x.length).length) (by omega) (by omega) (by rw [List.drop_zero]; exact e)
    unfold segGet
    rw [show (0 : Int) = ((0 : Nat) : Int) from rfl, hv]
    simp only
    rw [if_neg (by simp), if_neg (by omega), if_neg (by omega), if_pos (by rw [seglen] at hl; omega)]
theorem segGet_nil {p : List UInt8} {most : Int} : segGet [] 0 p most = ([], 0, [], 4) := by
  have hv : vget [] 0 = (0, 0, 4) := rfl
  unfold segGet
  rw [hv]
  rfl
/-- What law 22's pieces lets in. -/
def Short150 (l : List (List UInt8)) : Prop := ∀ x ∈ l, 0 < x.length ∧ x.length ≤ 150
def posn (l : List (List UInt8)) (k : Nat) : Nat := 4 + ((l.take k).map seglen).sum
theorem posn_succ (l : List (List UInt8)) (k : Nat) (h : k < l.length) : posn l (k + 1) = posn l k + seglen (l.getD k []) := by
  rw [posn, posn, List.take_add_one, List.map_append, List.sum_append, List.getElem?_eq_getElem h, List.getD_eq_getElem?_getD, List.getElem?_eq_getElem h]
  simp [Nat.add_assoc]
theorem strm_len : ∀ (l : List (List UInt8)) (p : List UInt8), (strm l p).length = (l.map seglen).sum
  | [], _ => rfl
  | x :: r, p => by rw [strm, List.length_append, segPut_len, strm_len r, List.map_cons, List.sum_cons]
/-- So far it has come: k bodies are told. -/
structure Run (l : List (List UInt8)) (k : Nat) (f : Fd) (rest : List UInt8) : Prop where
  code : f.code = 0
  last : f.last = false
  most : f.most = 150
  wh : f.wh = 0
  kl : k ≤ l.length
  go : f.begun = true → f.b ++ rest = strm (l.drop k) f.prev ∧ f.at_ = posn l k ∧ f.prev.length = 32
  st : f.begun = false → k = 0 ∧ f.b ++ rest = magic ++ strm l (sha magic) ∧ f.b.length < 4 ∧ f.at_ = 0 ∧ f.prev = sha magic
theorem Run.push {l : List (List UInt8)} {k : Nat} {f : Fd} {s rest : List UInt8} (h : Run l k f (s ++ rest)) : Run l k (f.push s) rest := by
  obtain ⟨most, b, at_, begun, last, prev, code, wh⟩ := f
  obtain ⟨h1, h2, h3, h4, h5, h6, h7⟩ := h
  simp only at h1 h2 h3 h4 h6 h7
  subst h1 h2 h3 h4
  unfold Fd.push
  simp only
  rw [if_neg (by simp)]
  by_cases hs : s = []
  · subst hs
    rw [if_pos rfl]
    exact ⟨rfl, rfl, rfl, rfl, h5, h6, h7⟩
  rw [if_neg hs, if_neg (by simp)]
  cases begun with
  | true =>
    rw [if_neg (by simp)]
    obtain ⟨g1, g2, g3⟩ := h6 rfl
    exact ⟨rfl, rfl, rfl, rfl, h5, fun _ => ⟨by rw [← g1]; simp, g2, g3⟩, fun h => by cases h⟩
  | false =>
    obtain ⟨g1, g2, g3, g4, g5⟩ := h7 rfl
    rw [← List.append_assoc] at g2
    by_cases hl : 4 ≤ (b ++ s).length
    · have ht : (b ++ s).take 4 = magic := by
        have := congrArg (List.take 4) g2
        rw [List.take_append_of_le_length hl] at this
        rw [this]
        exact List.take_left' rfl
      have hp : pre magic (b ++ s) = true := by
        simp only [pre, Bool.and_eq_true, decide_eq_true_eq, beq_iff_eq]
        exact ⟨hl, ht⟩
      rw [if_pos ⟨rfl, hp⟩]
      refine ⟨rfl, rfl, rfl, rfl, h5, fun _ => ⟨?_, ?_, ?_⟩, fun h => by cases h⟩
      · simp only
        subst g1
        have := congrArg (List.drop 4) g2
        rw [List.drop_append_of_le_length hl] at this
        rw [this, g5, List.drop_zero]
        exact List.drop_left' rfl
      · subst g1; rfl
      · rw [g5]; exact sha_length _
    · have hp : pre magic (b ++ s) = false := by
        have : magic.length = 4 := rfl
        simp only [pre, this]
        rw [decide_eq_false hl, Bool.false_and]
      rw [if_neg (by simp [hp])]
      exact ⟨rfl, rfl, rfl, rfl, h5, fun h => by simp at h, fun _ => ⟨g1, g2, by simp only; omega, g4, g5⟩⟩
theorem drop_getD_cons {α : Type} (l : List α) (k : Nat) (d : α) (h : k < l.length) : l.drop k = l.getD k d :: l.drop (k + 1) := by
  rw [List.drop_eq_getElem_cons h, List.getD_eq_getElem?_getD, List.getElem?_eq_getElem h]; rfl
theorem Run.next {l : List (List UInt8)} (hl : Short150 l) {k : Nat} {f : Fd} {rest : List UInt8} (h : Run l k f rest) :
    (f.next = f ∧ f.got = false ∧ f.b.length ≤ 184 ∧ (rest = [] → k = l.length ∧ f.b = [] ∧ f.at_ = posn l k)) ∨
    (k < l.length ∧ f.got = true ∧ f.body = l.getD k [] ∧ f.from_ = posn l k ∧ Run l (k + 1) f.next rest) := by
  obtain ⟨most, b, at_, begun, last, prev, code, wh⟩ := f
  obtain ⟨h1, h2, h3, h4, h5, h6, h7⟩ := h
  simp only at h1 h2 h3 h4 h6 h7
  subst h1 h2 h3 h4
  cases begun with
  | false =>
    left
    obtain ⟨g1, g2, g3, g4, g5⟩ := h7 rfl
    have ht : b.take (min b.length 4) = magic.take (min b.length 4) := by
      have hm : min b.length 4 = b.length := by omega
      rw [hm]
      have := congrArg (List.take b.length) g2
      rw [List.take_left, List.take_append_of_le_length (by show b.length ≤ 4; omega)] at this
      rw [List.take_length, ← this]
    refine ⟨?_, rfl, by simp only; omega, fun hr => ?_⟩
    · unfold Fd.next
      simp only
      rw [if_neg (by simp), if_pos trivial, if_neg (by simp [ht])]
    · subst hr
      exfalso
      have := congrArg List.length g2
      rw [List.append_nil, List.length_append] at this
      have : magic.length = 4 := rfl
      omega
  | true =>
    obtain ⟨g1, g2, g3⟩ := h6 rfl
    by_cases hk : k = l.length
    · subst hk
      rw [List.drop_length, strm, List.append_eq_nil_iff] at g1
      obtain ⟨rfl, rfl⟩ := g1
      left
      have hs := @segGet_nil prev 150
      refine ⟨?_, ?_, by simp, fun _ => ⟨rfl, rfl, g2⟩⟩
      · unfold Fd.next; simp only; rw [if_neg (by simp), if_neg (by simp), hs]; rfl
      · unfold Fd.got; simp only; rw [hs]; rfl
    have hk' : k < l.length := by omega
    rw [drop_getD_cons l k [] hk', strm] at g1
    generalize hx : l.getD k [] = x at *
    have hxm : 0 < x.length ∧ x.length ≤ 150 := by
      refine hl x ?_
      rw [← hx, List.getD_eq_getElem?_getD, List.getElem?_eq_getElem hk']
      exact List.getElem_mem hk'
    have hsl := segPut_len prev x
    have hvl : (vput x.length).length ≤ 2 := by
      by_cases h : x.length < 128
      · rw [vput_lt h]; simp
      · rw [vput_ge h, vput_lt (by omega)]; simp
    by_cases hb : b.length < seglen x
    · left
      have e : b ++ (segPut prev x).drop b.length = segPut prev x := by
        have h8 := congrArg (List.take b.length) g1
        rw [List.take_left, List.take_append_of_le_length (by omega)] at h8
        conv => lhs; lhs; rw [h8]
        exact List.take_append_drop _ _
      have hs := segGet_short (most := 150) hxm.1 (by omega) (by omega) e (by
        intro h9
        have := congrArg List.length h9
        rw [List.length_drop, hsl] at this
        simp at this
        omega)
      refine ⟨?_, ?_, by simp only; rw [seglen] at hb; omega, fun hr => ?_⟩
      · unfold Fd.next; simp only; rw [if_neg (by simp), if_neg (by simp), hs]; rfl
      · unfold Fd.got; simp only; rw [hs]; rfl
      · exfalso
        rw [hr, List.append_nil] at g1
        have := congrArg List.length g1
        rw [List.length_append, hsl] at this
        omega
    · right
      have e : b = segPut prev x ++ b.drop (seglen x) := by
        have h8 := congrArg (List.take (seglen x)) g1
        rw [List.take_append_of_le_length (by omega), List.take_append_of_le_length (by omega), List.take_of_length_le (l := segPut prev x) (by omega)] at h8
        conv => lhs; rw [← List.take_append_drop (seglen x) b, h8]
      have hs := segGet_put (p := prev) (y := b.drop (seglen x)) (most := 150) hxm.1 (by omega) (by omega)
      rw [← e] at hs
      have hg : Fd.got ⟨150, b, at_, true, false, prev, 0, 0⟩ = true := by unfold Fd.got; simp only; rw [hs]; rfl
      refine ⟨hk', hg, ?_, ?_, ?_⟩
      · unfold Fd.body; rw [hg, if_pos rfl]; simp only; rw [hs]
      · unfold Fd.from_; rw [hg, if_pos rfl]; exact g2
      · unfold Fd.next
        simp only
        rw [if_neg (by simp), if_neg (by simp), hs]
        show Run l (k + 1) ⟨150, b.drop (seglen x), at_ + seglen x, true, false, segDig prev x, 0, 0⟩ rest
        refine ⟨rfl, rfl, rfl, rfl, by omega, fun _ => ⟨?_, ?_, segDig_len _ _⟩, fun h => by simp at h⟩
        · simp only
          have h8 := congrArg (List.drop (seglen x)) g1
          rw [List.drop_append_of_le_length (by omega)] at h8
          have h9 : (segPut prev x ++ strm (l.drop (k + 1)) (segDig prev x)).drop (seglen x) = strm (l.drop (k + 1)) (segDig prev x) := List.drop_left' hsl
          exact h8.trans h9
        · simp only
          rw [posn_succ l k hk', hx, g2]
theorem Run.new (l : List (List UInt8)) : Run l 0 (Fd.new 150) (magic ++ strm l (sha magic)) :=
  ⟨rfl, rfl, rfl, rfl, Nat.zero_le _, fun h => (by cases h), fun _ => ⟨rfl, rfl, (by decide), rfl, rfl⟩⟩
theorem posn_end (l : List (List UInt8)) (p : List UInt8) : (magic ++ strm l p).length = posn l l.length := by
  rw [List.length_append, strm_len, posn, List.take_length]; rfl
theorem sum_drop (l : List Nat) (k : Nat) : (l.drop k).sum ≤ l.sum := by
  conv => rhs; rw [← List.take_append_drop k l, List.sum_append]
  omega
theorem sum_take (l : List Nat) (k : Nat) : (l.take k).sum ≤ l.sum := by
  conv => rhs; rw [← List.take_append_drop k l, List.sum_append]
  omega
theorem Run.bound {l : List (List UInt8)} {k : Nat} {f : Fd} {rest : List UInt8} (h : Run l k f rest) : f.b.length + rest.length ≤ 4 + (l.map seglen).sum ∧ f.at_ ≤ 4 + (l.map seglen).sum ∧ f.prev.length = 32 := by
  cases hb : f.begun with
  | true =>
    obtain ⟨g1, g2, g3⟩ := h.go hb
    have h1 := congrArg List.length g1
    rw [List.length_append, strm_len, List.map_drop] at h1
    have h2 := sum_drop (l.map seglen) k
    have h3 := sum_take (l.map seglen) k
    rw [posn, List.map_take] at g2
    exact ⟨by omega, by omega, g3⟩
  | false =>
    obtain ⟨g1, g2, g3, g4, g5⟩ := h.st hb
    have h1 := congrArg List.length g2
    rw [List.length_append, List.length_append, strm_len] at h1
    have : magic.length = 4 := rfl
    exact ⟨by omega, by omega, by rw [g5]; exact sha_length _⟩
theorem seglen_le {x : List UInt8} (h : x.length ≤ 150) : seglen x ≤ 192 := by
  have := vput_len x.length (by omega)
  rw [seglen]; omega
theorem seglen_sum : ∀ (l : List (List UInt8)), (∀ x ∈ l, x.length ≤ 150) → (l.map seglen).sum ≤ 192 * l.length
  | [], _ => by simp
  | x :: r, h => by
    rw [List.map_cons, List.sum_cons, List.length_cons]
    have h1 := seglen_le (h x (by simp))
    have h2 := seglen_sum r fun y hy => h y (by simp [hy])
    omega
theorem strm_snoc : ∀ (l : List (List UInt8)) (x p : List UInt8), strm (l ++ [x]) p = strm l p ++ segPut (digs_ l p) x
  | [], x, p => by simp [strm, digs_]
  | y :: r, x, p => by rw [List.cons_append, strm, strm, strm_snoc r, digs_, List.append_assoc]
theorem digs_snoc : ∀ (l : List (List UInt8)) (x p : List UInt8), digs_ (l ++ [x]) p = segDig (digs_ l p) x
  | [], x, p => rfl
  | y :: r, x, p => by rw [List.cons_append, digs_, digs_, digs_snoc r]
theorem digs_len : ∀ (l : List (List UInt8)) (p : List UInt8), p.length = 32 → (digs_ l p).length = 32
  | [], p, h => h
  | y :: r, p, h => by rw [digs_]; exact digs_len r _ (segDig_len _ _)
end Go.Proofs.YtpobbfhdkbnpmaaDoor.Lv
