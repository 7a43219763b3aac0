/- Numbers as bytes: what is read is just what would be put. -/
import Derived.Test.YtpobbfhdkbnpmaaDoorVB
set_option linter.unusedVariables false
set_option linter.unusedSimpArgs false
set_option maxRecDepth 100000
set_option maxHeartbeats 4000000
namespace Go.Proofs.YtpobbfhdkbnpmaaDoor.Lv
open Go Go.RowKit

theorem take_drop_one (b : List UInt8) (k : Nat) (h : k < b.length) : (b.take (k + 1)).drop k = [b.getD k 0] := by
  rw [List.drop_take, Nat.add_sub_cancel_left, List.drop_eq_getElem_cons h, List.take_succ_cons, List.take_zero, List.getD_eq_getElem?_getD, List.getElem?_eq_getElem h]
  rfl
theorem take_drop_cons (b : List UInt8) (k e : Nat) (h : k < e) (he : e ≤ b.length) : (b.take e).drop k = b.getD k 0 :: (b.take e).drop (k + 1) := by
  have hk : k < (b.take e).length := by simp; omega
  rw [List.drop_eq_getElem_cons hk, List.getElem_take, List.getD_eq_getElem?_getD, List.getElem?_eq_getElem (by omega)]
  rfl
theorem vgo_canon (b : List UInt8) (a : Nat) : ∀ f i v n e, i + f = 10 → vgo b a i v f = (n, e, 0) → ∃ m, n = v + 2 ^ (7 * i) * m ∧ (b.take e).drop (a + i) = vput m ∧ (0 < i → 0 < m) ∧ a + i < e ∧ e ≤ b.length
  | 0, i, v, n, e, _, h => by simp [vgo] at h
  | f + 1, i, v, n, e, hif, h => by
    rw [vgo] at h
    by_cases h1 : b.length ≤ a + i
    · rw [if_pos h1] at h; simp at h
    rw [if_neg h1] at h
    by_cases h2 : i = 9 ∧ 1 < (b.getD (a + i) 0).toNat ∨ 0 < i ∧ (b.getD (a + i) 0).toNat = 0
    · rw [if_pos h2] at h; simp at h
    rw [if_neg h2] at h
    have hc := (b.getD (a + i) 0).toNat_lt
    have hof : UInt8.ofNat (b.getD (a + i) 0).toNat = b.getD (a + i) 0 := by simp
    by_cases h3 : (b.getD (a + i) 0).toNat < 128
    · rw [if_pos h3] at h
      simp only [Prod.mk.injEq] at h
      obtain ⟨rfl, rfl, _⟩ := h
      refine ⟨(b.getD (a + i) 0).toNat, by rw [Nat.mod_eq_of_lt h3], ?_, fun hi => ?_, by omega, by omega⟩
      · rw [take_drop_one b (a + i) (by omega), vput_lt h3, hof]
      · omega
    · rw [if_neg h3] at h
      obtain ⟨m, e1, e2, e3, e4, e5⟩ := vgo_canon b a f (i + 1) _ n e (by omega) h
      have hm := e3 (by omega)
      refine ⟨(b.getD (a + i) 0).toNat % 128 + 128 * m, ?_, ?_, fun _ => by omega, by omega, e5⟩
      · rw [e1, show 7 * (i + 1) = 7 * i + 7 by omega, Nat.pow_add, show (2 : Nat) ^ 7 = 128 from rfl, Nat.mul_add, Nat.mul_assoc, Nat.add_assoc]
      · have h4 : ((b.getD (a + i) 0).toNat % 128 + 128 * m) % 128 + 128 = (b.getD (a + i) 0).toNat := by omega
        have h5 : ((b.getD (a + i) 0).toNat % 128 + 128 * m) / 128 = m := by omega
        rw [take_drop_cons b (a + i) e (by omega) e5, vput_ge (by omega), h5, h4, hof, ← e2, Nat.add_assoc]
theorem vget_canon {b : List UInt8} {a : Int} {n e : Nat} (h : vget b a = (n, e, 0)) : 0 ≤ a ∧ (b.take e).drop a.toNat = vput n ∧ a.toNat < e ∧ e ≤ b.length := by
  unfold vget at h
  split at h
  · simp at h
  · rename_i h1
    obtain ⟨m, e1, e2, _, e4, e5⟩ := vgo_canon b a.toNat 10 0 0 n e (by omega) h
    simp only [Nat.mul_zero, Nat.pow_zero, Nat.one_mul, Nat.zero_add, Nat.add_zero] at e1 e2 e4
    subst e1
    exact ⟨by omega, e2, e4, e5⟩
theorem vgo_lt (b : List UInt8) (a : Nat) : ∀ f i v, i + f = 10 → v < 2 ^ (7 * i) → (vgo b a i v f).1 < 18446744073709551616 ∧ (vgo b a i v f).2.2 ≤ 6
  | 0, i, v, _, _ => ⟨by simp [vgo], by simp [vgo]⟩
  | f + 1, i, v, hif, hv => by
    rw [vgo]
    split
    · exact ⟨by simp, by simp⟩
    split
    · exact ⟨by simp, by simp⟩
    rename_i h1 h2
    have hc := (b.getD (a + i) 0).toNat_lt
    obtain ⟨g1, g2, _⟩ := vgo_next (v := v) (i := i) ((b.getD (a + i) 0).toNat % 128) (by omega) (by omega) (by omega) hv
    split
    · exact ⟨g1, by simp⟩
    · exact vgo_lt b a f (i + 1) _ (by omega) (g2 (by omega))
theorem vget_lt (b : List UInt8) (a : Int) : (vget b a).1 < 18446744073709551616 ∧ (vget b a).2.2 ≤ 6 := by
  unfold vget
  split
  · exact ⟨by simp, by simp⟩
  · exact vgo_lt b a.toNat 10 0 0 (by omega) (by decide)
end Go.Proofs.YtpobbfhdkbnpmaaDoor.Lv
