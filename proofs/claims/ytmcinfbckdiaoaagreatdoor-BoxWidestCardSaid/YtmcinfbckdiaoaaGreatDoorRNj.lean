/- The law of the account of boxes: how many, how deep. -/
import Derived.Test.YtmcinfbckdiaoaaGreatDoorRNi
import Derived.Test.YtmcinfbckdiaoaaGreatDoorQH
set_option linter.unusedVariables false
set_option linter.unusedSimpArgs false
set_option maxRecDepth 100000
set_option maxHeartbeats 4000000
namespace Go.Proofs.YtmcinfbckdiaoaaGreatDoor.Lv
open Go Go.RowKit
theorem qb_mid {k : Nat} {p : Rat × Rat} (h1 : qb k p.1) (h2 : qb k p.2) : qb (2 * k + 2) (midQ p) := by
  have ht : qb 1 ((2 : Int) : Rat)⁻¹ := by
    refine qb_inv ?_ (by decide)
    have a1 : nb 2 ≤ 1 := nb_lt.2 (by omega)
    have a2 : nb 1 ≤ 1 := nb_lt.2 (by omega)
    exact ⟨by show nb 2 ≤ _; omega, by show nb 1 ≤ _; omega⟩
  have := qb_mul (qb_add h1 h2) ht
  unfold midQ
  rw [Rat.div_def]
  exact this.mono (by omega)
theorem mid_lt {a b : Rat} (h : a < b) : a < midQ (a, b) ∧ midQ (a, b) < b := by
  unfold midQ
  have e : ((2 : Int) : Rat) = 2 := rfl
  rw [e]
  grind
theorem rightB_iff {l : List (Rat × Rat)} : rightB l = true ↔ (∀ p ∈ l, p.1 < p.2) ∧ 1 ≤ l.length ∧ l.length ≤ 3 := by
  unfold rightB
  rw [Bool.and_eq_true, Bool.and_eq_true, List.all_eq_true, decide_eq_true_iff, decide_eq_true_iff]
  constructor
  · rintro ⟨⟨h1, h2⟩, h3⟩
    exact ⟨fun p hp => of_decide_eq_true (h1 p hp), h2, h3⟩
  · rintro ⟨h1, h2, h3⟩
    exact ⟨⟨fun p hp => decide_eq_true (h1 p hp), h2⟩, h3⟩
/-- A place's bounds: k bits' worth. -/
def BxB (k n : Nat) (l : List (Rat × Rat)) : Prop := rightB l = true ∧ l.length = n ∧ ∀ p ∈ l, qb k p.1 ∧ qb k p.2
theorem BxB.split {k n i : Nat} {l : List (Rat × Rat)} (h : BxB k n l) (hi : i < n) : BxB (2 * k + 2) n (splitL l i) ∧ BxB (2 * k + 2) n (splitH l i) := by
  obtain ⟨h1, h2, h3⟩ := h
  rw [rightB_iff] at h1
  obtain ⟨h1, h4, h5⟩ := h1
  have hmem : l.getD i (0, 0) ∈ l := by
    rw [List.getD_eq_getElem?_getD, List.getElem?_eq_getElem (by omega)]; exact List.getElem_mem _
  unfold splitL splitH
  generalize l.getD i (0, 0) = p at *
  obtain ⟨m1, m2⟩ := mid_lt (h1 p hmem)
  obtain ⟨b1, b2⟩ := h3 p hmem
  have b3 := qb_mid b1 b2
  have hs : ∀ (q : Rat × Rat), q.1 < q.2 → qb (2 * k + 2) q.1 → qb (2 * k + 2) q.2 → BxB (2 * k + 2) n (l.set i q) := fun q q1 q2 q3 => by
    refine ⟨rightB_iff.2 ⟨fun r hr => ?_, by rw [List.length_set]; exact h4, by rw [List.length_set]; exact h5⟩, by rw [List.length_set]; exact h2, fun r hr => ?_⟩
    · rcases List.mem_or_eq_of_mem_set hr with h | h
      · exact h1 r h
      · rw [h]; exact q1
    · rcases List.mem_or_eq_of_mem_set hr with h | h
      · exact ⟨(h3 r h).1.mono (by omega), (h3 r h).2.mono (by omega)⟩
      · rw [h]; exact ⟨q2, q3⟩
  exact ⟨hs _ m1 (b1.mono (by omega)) b3, hs _ m2 b3 (b2.mono (by omega))⟩
/-- As large as a place so deep may be. -/
def bK : Nat → Nat
  | 0 => 4001
  | d + 1 => 2 * bK d + 2
theorem bK_mono {d e : Nat} (h : d ≤ e) : bK d ≤ bK e := by
  induction h with
  | refl => exact Nat.le_refl _
  | step _ ih => exact Nat.le_trans ih (by show bK _ ≤ 2 * bK _ + 2; omega)
theorem bK_small {d : Nat} (h : d ≤ 13) : bK d < 40000000 := Nat.lt_of_le_of_lt (bK_mono h) (by decide)
def plR (l : List Plc) : Nat → D := fun j => plD (l.getD j ([], 0))
/-- An account's state: every place is a box, no deeper than was said. -/
def PlP (n : Nat) (d : Nat) (p : Plc) : Prop := ∃ e : Nat, p.2 = e ∧ e ≤ d ∧ BxB (bK e) n p.1
theorem boxR_ok {l : List (Txt × Txt)} (h : (boxR l).2 = 0) : BxB 4001 (boxR l).1.length (boxR l).1 ∧ 1 ≤ (boxR l).1.length ∧ (boxR l).1.length ≤ 3 := by
  have hs : ∀ p : Txt × Txt, (sideR p.1 p.2).2 = 0 → (sideR p.1 p.2).1.1 < (sideR p.1 p.2).1.2 ∧ qb 4001 (sideR p.1 p.2).1.1 ∧ qb 4001 (sideR p.1 p.2).1.2 := fun p => by
    obtain ⟨q1, q2, _⟩ := spR_qb p.1 p.2
    unfold sideR
    generalize spR p.1 p.2 = s at *
    split
    · rename_i h; intro h2; exact absurd h2 h
    · split
      · intro h2; exact absurd h2 (by decide)
      · rename_i h
        split
        · intro _; exact ⟨by grind, q1, q2⟩
        · intro h2; exact absurd h2 (by decide)
  unfold boxR at h ⊢
  split at h
  · exact absurd h (by decide)
  · rename_i hlen
    rw [if_neg hlen]
    unfold sidesR at h ⊢
    split at h
    · rename_i p hp
      have := List.find?_some hp
      exact absurd h (of_decide_eq_true this)
    · rename_i hf
      have hz : ∀ p ∈ l, (sideR p.1 p.2).2 = 0 := fun p hp => by
        have := List.find?_eq_none.1 hf p hp
        simpa using this
      have hm : ∀ q ∈ l.map (fun p => (sideR p.1 p.2).1), q.1 < q.2 ∧ qb 4001 q.1 ∧ qb 4001 q.2 := fun q hq => by
        obtain ⟨p, hp, rfl⟩ := List.mem_map.1 hq
        exact hs p (hz p hp)
      refine ⟨⟨rightB_iff.2 ⟨fun q hq => (hm q hq).1, ?_, ?_⟩, rfl, fun q hq => (hm q hq).2⟩, ?_, ?_⟩
      all_goals
        simp only [List.length_map]
        omega
end Go.Proofs.YtmcinfbckdiaoaaGreatDoor.Lv
