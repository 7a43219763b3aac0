/- Bounds of halves of halves: the denominators divide one number. -/
import Derived.Test.YtmcinfbckdiaoaaGreatDoorRd
set_option linter.unusedVariables false
set_option linter.unusedSimpArgs false
set_option maxRecDepth 100000
set_option maxHeartbeats 4000000
namespace Go.Proofs.YtmcinfbckdiaoaaGreatDoor.Lv
open Go Go.RowKit
/-- So many L-th parts, at most Z of them. -/
def qf (L Z : Nat) (q : Rat) : Prop := ∃ z : Int, z.natAbs ≤ Z ∧ q = mkRat z L
theorem qf.two {L Z : Nat} {q : Rat} (h : qf L Z q) : qf (2 * L) (2 * Z) q := by
  obtain ⟨z, h1, h2⟩ := h
  refine ⟨2 * z, by omega, ?_⟩
  rw [h2]
  exact (Rat.mkRat_mul_left (n := z) (d := L) (a := 2) (by omega)).symm
theorem qf.mid {L Z : Nat} (hL : L ≠ 0) {p : Rat × Rat} (ha : qf L Z p.1) (hb : qf L Z p.2) : qf (2 * L) (2 * Z) (midQ p) := by
  obtain ⟨x, h1, h2⟩ := ha
  obtain ⟨y, h3, h4⟩ := hb
  refine ⟨x + y, by omega, ?_⟩
  unfold midQ
  rw [h2, h4, Rat.mkRat_eq_div, Rat.mkRat_eq_div, Rat.mkRat_eq_div]
  have hL' : ((L : Nat) : Rat) ≠ 0 := by
    intro h
    exact hL (by exact_mod_cast h)
  have e1 : ((x + y : Int) : Rat) = (x : Rat) + (y : Rat) := Rat.intCast_add x y
  have e2 : ((2 * L : Nat) : Rat) = 2 * (L : Rat) := by
    have := Rat.natCast_mul 2 L
    exact this
  have e3 : ((2 : Int) : Rat) = 2 := rfl
  rw [e1, e2, e3]
  grind
theorem qf.qb {L Z k : Nat} {q : Rat} (hL : L ≠ 0) (h : qf L Z q) (h1 : nb Z ≤ k) (h2 : nb L ≤ k) : qb k q := by
  obtain ⟨z, h3, rfl⟩ := h
  have h4 := mk_num_le z hL
  have h5 : zb z ≤ nb Z := nb_mono h3
  exact ⟨by omega, by omega⟩
theorem qf_of {q : Rat} {L B : Nat} (hL : L ≠ 0) (hd : q.den ∣ L) (hB : q.num.natAbs ≤ B) : qf L (B * L) q := by
  obtain ⟨c, rfl⟩ := hd
  have hc : c ≠ 0 := fun h => hL (by rw [h, Nat.mul_zero])
  refine ⟨q.num * c, ?_, ?_⟩
  · rw [Int.natAbs_mul, Int.natAbs_natCast]
    exact Nat.le_trans (Nat.mul_le_mul_right _ hB) (Nat.mul_le_mul_left _ (Nat.le_mul_of_pos_left _ q.den_pos))
  · rw [Rat.mkRat_mul_right hc, Rat.mkRat_self]
theorem qf.up {L Z Y : Nat} {q : Rat} (h : qf L Z q) (hy : Z ≤ Y) : qf L Y q := by
  obtain ⟨z, h1, h2⟩ := h
  exact ⟨z, Nat.le_trans h1 hy, h2⟩
def BxF (L Z n : Nat) (l : List (Rat × Rat)) : Prop := rightB l = true ∧ l.length = n ∧ ∀ p ∈ l, qf L Z p.1 ∧ qf L Z p.2
theorem BxF.split {L Z n i : Nat} {l : List (Rat × Rat)} (hL : L ≠ 0) (h : BxF L Z n l) (hi : i < n) : BxF (2 * L) (2 * Z) n (splitL l i) ∧ BxF (2 * L) (2 * Z) n (splitH l i) := by
  obtain ⟨h1, h2, h3⟩ := h
  rw [rightB_iff] at h1
  obtain ⟨h1, h4, h5⟩ := h1
  have hmem : l.getD i (0, 0) ∈ l := by
    rw [List.getD_eq_getElem?_getD, List.getElem?_eq_getElem (by omega)]; exact List.getElem_mem _
  unfold splitL splitH
  generalize l.getD i (0, 0) = p at *
  obtain ⟨m1, m2⟩ := mid_lt (h1 p hmem)
  obtain ⟨b1, b2⟩ := h3 p hmem
  have b3 := qf.mid hL b1 b2
  have hs : ∀ (q : Rat × Rat), q.1 < q.2 → qf (2 * L) (2 * Z) q.1 → qf (2 * L) (2 * Z) q.2 → BxF (2 * L) (2 * Z) n (l.set i q) := fun q q1 q2 q3 => by
    refine ⟨rightB_iff.2 ⟨fun r hr => ?_, by rw [List.length_set]; exact h4, by rw [List.length_set]; exact h5⟩, by rw [List.length_set]; exact h2, fun r hr => ?_⟩
    · rcases List.mem_or_eq_of_mem_set hr with h | h
      · exact h1 r h
      · rw [h]; exact q1
    · rcases List.mem_or_eq_of_mem_set hr with h | h
      · exact ⟨(h3 r h).1.two, (h3 r h).2.two⟩
      · rw [h]; exact ⟨q2, q3⟩
  exact ⟨hs _ m1 b1.two b3, hs _ m2 b3 b2.two⟩
theorem BxF.bx {L Z n k : Nat} {l : List (Rat × Rat)} (hL : L ≠ 0) (h : BxF L Z n l) (h1 : nb Z ≤ k) (h2 : nb L ≤ k) : BxB k n l :=
  ⟨h.1, h.2.1, fun p hp => ⟨(h.2.2 p hp).1.qb hL h1 h2, (h.2.2 p hp).2.qb hL h1 h2⟩⟩
/-- A number that all denominators divide. -/
def denL : List (Rat × Rat) → Nat
  | [] => 1
  | p :: r => (p.1.den * p.2.den) * denL r
theorem denL_pos : ∀ l : List (Rat × Rat), denL l ≠ 0
  | [] => by decide
  | p :: r => Nat.mul_ne_zero (Nat.mul_ne_zero (Nat.pos_iff_ne_zero.1 p.1.den_pos) (Nat.pos_iff_ne_zero.1 p.2.den_pos)) (denL_pos r)
theorem denL_nb {k : Nat} : ∀ l : List (Rat × Rat), (∀ p ∈ l, qb k p.1 ∧ qb k p.2) → nb (denL l) ≤ 2 * k * l.length + 1
  | [], _ => by
    have : nb 1 ≤ 1 := nb_lt.2 (by omega)
    show nb 1 ≤ _
    omega
  | p :: r, h => by
    have ih := denL_nb r fun q hq => h q (List.mem_cons_of_mem _ hq)
    obtain ⟨⟨_, h1⟩, ⟨_, h2⟩⟩ := h p List.mem_cons_self
    have h3 := nb_mul p.1.den p.2.den
    have h4 := nb_mul (p.1.den * p.2.den) (denL r)
    show nb ((p.1.den * p.2.den) * denL r) ≤ _
    rw [List.length_cons, Nat.mul_add]
    omega
theorem denL_dvd : ∀ (l : List (Rat × Rat)) (p : Rat × Rat), p ∈ l → p.1.den ∣ denL l ∧ p.2.den ∣ denL l
  | [], p, h => by cases h
  | q :: r, p, h => by
    rcases List.mem_cons.1 h with rfl | h
    · exact ⟨Nat.dvd_trans (Nat.dvd_mul_right _ _) (Nat.dvd_mul_right _ _), Nat.dvd_trans (Nat.dvd_mul_left _ _) (Nat.dvd_mul_right _ _)⟩
    · have := denL_dvd r p h
      exact ⟨Nat.dvd_trans this.1 (Nat.dvd_mul_left _ _), Nat.dvd_trans this.2 (Nat.dvd_mul_left _ _)⟩
theorem bx_F {k n : Nat} {l : List (Rat × Rat)} (h : BxB k n l) : ∃ L Z, L ≠ 0 ∧ nb L ≤ 6 * k + 1 ∧ nb Z ≤ 7 * k + 2 ∧ BxF L Z n l := by
  obtain ⟨h1, h2, h3⟩ := h
  have h4 := (rightB_iff.1 h1).2.2
  have hL := denL_pos l
  have hn := denL_nb l h3
  have hn' : nb (denL l) ≤ 6 * k + 1 := by
    have : 2 * k * l.length ≤ 2 * k * 3 := Nat.mul_le_mul_left _ h4
    omega
  have hB : ∀ z : Int, zb z ≤ k → z.natAbs ≤ 4294967296 ^ k := fun z hz => Nat.le_of_lt (nb_lt.1 hz)
  have hZ : nb (4294967296 ^ k) ≤ k + 1 := nb_lt.2 (Nat.pow_lt_pow_right (by omega) (by omega))
  generalize (4294967296 : Nat) ^ k = B at *
  refine ⟨denL l, B * denL l, hL, hn', ?_, h1, h2, fun p hp => ?_⟩
  · have := nb_mul B (denL l); omega
  · obtain ⟨d1, d2⟩ := denL_dvd l p hp
    obtain ⟨q1, q2⟩ := h3 p hp
    exact ⟨qf_of hL d1 (hB _ q1.1), qf_of hL d2 (hB _ q2.1)⟩
end Go.Proofs.YtmcinfbckdiaoaaGreatDoor.Lv
