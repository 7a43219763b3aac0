/- Numbers as bytes: what was put is got; what ends too soon is too short. -/
import Derived.Test.YtpobbfhdkbnpmaaDoorVD
set_option linter.unusedVariables false
set_option linter.unusedSimpArgs false
set_option maxRecDepth 100000
set_option maxHeartbeats 4000000
namespace Go.Proofs.YtpobbfhdkbnpmaaDoor.Lv
open Go Go.RowKit

theorem pow_step {i m : Nat} (hi : i ≤ 9) (hm : m < 2 ^ (64 - 7 * i)) (h : ¬ m < 128) : i ≤ 8 ∧ m / 128 < 2 ^ (64 - 7 * (i + 1)) := by
  rcases (show i = 0 ∨ i = 1 ∨ i = 2 ∨ i = 3 ∨ i = 4 ∨ i = 5 ∨ i = 6 ∨ i = 7 ∨ i = 8 ∨ i = 9 by omega) with rfl | rfl | rfl | rfl | rfl | rfl | rfl | rfl | rfl | rfl <;> omega
theorem pow_last {m : Nat} (hm : m < 2 ^ (64 - 7 * 9)) : m ≤ 1 := by omega
theorem drop_cons {b : List UInt8} {k : Nat} {c : UInt8} {r : List UInt8} (h : b.drop k = c :: r) : k < b.length ∧ b.getD k 0 = c ∧ b.drop (k + 1) = r := by
  have hk : k < b.length := by
    rcases Nat.lt_or_ge k b.length with h1 | h1
    · exact h1
    · rw [List.drop_of_length_le h1] at h; cases h
  rw [List.drop_eq_getElem_cons hk] at h
  simp only [List.cons.injEq] at h
  refine ⟨hk, ?_, h.2⟩
  rw [List.getD_eq_getElem?_getD, List.getElem?_eq_getElem hk]
  exact h.1
theorem ofNat_toNat {n : Nat} (h : n < 256) : (UInt8.ofNat n).toNat = n := by
  rw [UInt8.toNat_ofNat', Nat.mod_eq_of_lt (by omega)]
theorem vgo_put (b : List UInt8) (a : Nat) : ∀ f i v m r, i + f = 10 → m < 2 ^ (64 - 7 * i) → (0 < i → 0 < m) → b.drop (a + i) = vput m ++ r → vgo b a i v f = (v + 2 ^ (7 * i) * m, a + i + (vput m).length, 0)
  | 0, i, v, m, r, hif, hm, _, _ => by
    obtain rfl : i = 10 := by omega
    have : m < 1 := by simpa using hm
    rename_i h0 _
    have := h0 (by omega)
    omega
  | f + 1, i, v, m, r, hif, hm, h0, h => by
    by_cases h1 : m < 128
    · rw [vput_lt h1] at h ⊢
      obtain ⟨g1, g2, g3⟩ := drop_cons h
      have hc : (b.getD (a + i) 0).toNat = m := by rw [g2, ofNat_toNat (by omega)]
      rw [vgo, hc, if_neg (by omega), if_neg, if_pos h1, Nat.mod_eq_of_lt h1]
      · rfl
      · rintro (⟨rfl, h2⟩ | ⟨h2, h3⟩)
        · have := pow_last hm; omega
        · have := h0 h2; omega
    · obtain ⟨p1, p2⟩ := pow_step (by omega) hm h1
      rw [vput_ge h1] at h ⊢
      obtain ⟨g1, g2, g3⟩ := drop_cons h
      have hc : (b.getD (a + i) 0).toNat = m % 128 + 128 := by rw [g2, ofNat_toNat (by omega)]
      rw [vgo, hc, if_neg (by omega), if_neg (by omega), if_neg (by omega), vgo_put b a f (i + 1) _ (m / 128) r (by omega) p2 (fun _ => by omega) g3]
      simp only [Prod.mk.injEq, List.length_cons, and_true]
      constructor
      · rw [show (m % 128 + 128) % 128 = m % 128 by omega, show 7 * (i + 1) = 7 * i + 7 by omega, Nat.pow_add, show (2 : Nat) ^ 7 = 128 from rfl, Nat.add_assoc, Nat.mul_assoc, ← Nat.mul_add]
        congr 2
        omega
      · omega
theorem vgo_short (b : List UInt8) (a : Nat) : ∀ f i v m y, i + f = 10 → m < 2 ^ (64 - 7 * i) → (0 < i → 0 < m) → b.drop (a + i) ++ y = vput m → y ≠ [] → vgo b a i v f = (0, 0, 4)
  | 0, i, v, m, y, hif, hm, h0, _, _ => by
    obtain rfl : i = 10 := by omega
    have : m < 1 := by simpa using hm
    have := h0 (by omega)
    omega
  | f + 1, i, v, m, y, hif, hm, h0, h, hy => by
    rw [vgo]
    by_cases h2 : b.length ≤ a + i
    · rw [if_pos h2]
    rw [if_neg h2]
    have hd : b.drop (a + i) = b.getD (a + i) 0 :: b.drop (a + i + 1) := by
      rw [List.drop_eq_getElem_cons (by omega), List.getD_eq_getElem?_getD, List.getElem?_eq_getElem (by omega)]; rfl
    rw [hd] at h
    by_cases h1 : m < 128
    · rw [vput_lt h1] at h
      simp only [List.cons_append, List.cons.injEq, List.append_eq_nil_iff] at h
      exact absurd h.2.2 hy
    · obtain ⟨p1, p2⟩ := pow_step (by omega) hm h1
      rw [vput_ge h1] at h
      simp only [List.cons_append, List.cons.injEq] at h
      have hc : (b.getD (a + i) 0).toNat = m % 128 + 128 := by rw [h.1, ofNat_toNat (by omega)]
      rw [hc, if_neg (by omega), if_neg (by omega)]
      exact vgo_short b a f (i + 1) _ (m / 128) y (by omega) p2 (fun _ => by omega) h.2 hy
theorem vget_put {b : List UInt8} {a : Nat} {m : Nat} {r : List UInt8} (hm : m < 18446744073709551616) (ha : a ≤ b.length) (h : b.drop a = vput m ++ r) : vget b (a : Int) = (m, a + (vput m).length, 0) := by
  rw [vget, if_neg (by omega), Int.toNat_natCast, vgo_put b a 10 0 0 m r (by omega) hm (by omega) h]
  simp
theorem vget_short {b : List UInt8} {a : Nat} {m : Nat} {y : List UInt8} (hm : m < 18446744073709551616) (ha : a ≤ b.length) (h : b.drop a ++ y = vput m) (hy : y ≠ []) : vget b (a : Int) = (0, 0, 4) := by
  rw [vget, if_neg (by omega), Int.toNat_natCast, vgo_short b a 10 0 0 m y (by omega) hm (by omega) h hy]
/-- Read at a place is as read of what begins there. -/
theorem vgo_shift (b : List UInt8) (k : Nat) (hk : k ≤ b.length) : ∀ f a i v, vgo b (k + a) i v f = ((vgo (b.drop k) a i v f).1, (if (vgo (b.drop k) a i v f).2.2 = 0 then k + (vgo (b.drop k) a i v f).2.1 else (vgo (b.drop k) a i v f).2.1), (vgo (b.drop k) a i v f).2.2)
  | 0, a, i, v => by simp [vgo]
  | f + 1, a, i, v => by
    have hl : (b.drop k).length = b.length - k := by simp
    have hg : (b.drop k).getD (a + i) 0 = b.getD (k + a + i) 0 := by
      rw [List.getD_eq_getElem?_getD, List.getD_eq_getElem?_getD, List.getElem?_drop, Nat.add_assoc]
    have ih := vgo_shift b k hk f a (i + 1)
    have e1 : (b.length - k ≤ a + i) = (b.length ≤ k + a + i) := propext (by omega)
    rw [vgo, vgo, hl, hg]
    generalize (b.getD (k + a + i) 0).toNat = c at *
    simp only [e1]
    by_cases h1 : b.length ≤ k + a + i
    · simp only [h1, if_true]; simp
    simp only [h1, if_false]
    by_cases h2 : i = 9 ∧ 1 < c ∨ 0 < i ∧ c = 0
    · simp only [h2, if_true]; simp
    simp only [h2, if_false]
    by_cases h3 : c < 128
    · simp only [h3, if_true]; simp [Nat.add_assoc]
    · simp only [h3, if_false, ih]
theorem vget_shift (b : List UInt8) (k : Nat) (hk : k ≤ b.length) : vget b (k : Int) = ((vget (b.drop k) 0).1, (if (vget (b.drop k) 0).2.2 = 0 then k + (vget (b.drop k) 0).2.1 else (vget (b.drop k) 0).2.1), (vget (b.drop k) 0).2.2) := by
  have := vgo_shift b k hk 10 0 0 0
  rw [Nat.add_zero] at this
  have h0 : vget (b.drop k) 0 = vgo (b.drop k) 0 0 0 10 := by
    unfold vget
    rw [if_neg (by omega)]
    rfl
  rw [h0, vget, if_neg (by omega), Int.toNat_natCast, this]
end Go.Proofs.YtpobbfhdkbnpmaaDoor.Lv
