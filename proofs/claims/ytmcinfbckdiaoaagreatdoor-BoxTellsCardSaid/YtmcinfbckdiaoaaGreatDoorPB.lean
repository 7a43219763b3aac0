/- The program's numbers: Bits, Zeros, Low. -/
import Derived.Test.YtmcinfbckdiaoaaGreatDoorPA
set_option linter.unusedVariables false
set_option linter.unusedSimpArgs false
set_option maxRecDepth 100000
set_option maxHeartbeats 4000000
namespace Go.Proofs.YtmcinfbckdiaoaaGreatDoor.Lv
open Go Go.RowKit

theorem limbs_ne {n : Nat} (h : n ≠ 0) : 0 < (limbs n).length := by rw [limbs_pos h]; simp
theorem nbit_limbs {n k : Nat} (hk : (limbs n).length = k + 1) : nbit n = 32 * k + nbit ((limbs n).getD k 0) ∧ (limbs n).getD k 0 ≠ 0 := by
  have hl := limbs_low n
  have hv := val_cut (limbs n) k (by omega)
  have hd : (limbs n).drop k = [(limbs n).getD k 0] := by
    rw [List.drop_eq_getElem_cons (by omega), List.drop_of_length_le (by omega), List.getD_eq_getElem?_getD, List.getElem?_eq_getElem (by omega)]
    rfl
  rw [val_limbs, hd] at hv
  simp only [val, Nat.mul_zero, Nat.add_zero] at hv
  have h1 := val_ltB (lows_take hl k)
  rw [List.length_take, Nat.min_eq_left (by omega)] at h1
  have hne : (limbs n).getD k 0 ≠ 0 := fun h0 => by
    rw [h0, Nat.mul_zero, Nat.add_zero] at hv
    rw [← hv] at h1
    have := (nb_lt (n := n) (k := k)).2 h1
    unfold nb at this
    omega
  have hp : (4294967296 : Nat) ^ k = 2 ^ (32 * k) := by rw [Nat.pow_mul]
  have hle : 2 ^ (32 * k) ≤ n := by
    rw [← hp, hv]
    have : 4294967296 ^ k * 1 ≤ 4294967296 ^ k * (limbs n).getD k 0 := Nat.mul_le_mul_left _ (by omega)
    omega
  have hdiv : n / 2 ^ (32 * k) = (limbs n).getD k 0 := by
    rw [← hp]
    conv => lhs; rw [hv]
    rw [Nat.add_mul_div_left _ _ (Nat.pow_pos (by omega)), Nat.div_eq_of_lt h1, Nat.zero_add]
  refine ⟨?_, hne⟩
  rw [nbit_div n (32 * k) hle, hdiv, Nat.add_comm]
theorem nat_Bits {n : Nat} (hn : nb n < 1073741824) : C E 86 [natD n] (.int .i64 (nbit n)) := by
  refine CG_intro Tryz.func86 rfl (by kernel_rfl) rfl (by kernel_rfl) (by kernel_rfl) rfl ?_
  unfold nb at hn
  by_cases h0 : n = 0
  · subst h0
    simp (maxSteps := 3000000) (disch := first | exact trivial | assumption | omega | exact RegOk.mk (by decide +kernel) | exact RegCl.mk (by decide +kernel) | exact RegNo.mk (by kernel_rfl)) only [go_sem, seval, natD, u32s, limbs_zero]
    exact LeV.refl _
  obtain ⟨k, hk⟩ : ∃ k, (limbs n).length = k + 1 := ⟨(limbs n).length - 1, by have := limbs_ne h0; omega⟩
  obtain ⟨e1, e2⟩ := nbit_limbs hk
  have e3 : ((((limbs n).length : Nat) : Int) - 1).toNat = k := by omega
  have hlt := lows_getD (limbs_low n) k
  have hnb : nbit ((limbs n).getD k 0) ≤ 32 := nbit_lt.2 hlt
  simp (maxSteps := 3000000) (disch := first | exact trivial | assumption | omega | exact RegOk.mk (by decide +kernel) | exact RegCl.mk (by decide +kernel) | exact RegNo.mk (by kernel_rfl)) only [go_sem, seval, natD, u32s, e3]
  refine callCl (bits_Len32 hlt) (LesV.refl _) rfl ?_
  simp (maxSteps := 3000000) (disch := first | exact trivial | assumption | omega | exact RegOk.mk (by decide +kernel) | exact RegCl.mk (by decide +kernel) | exact RegNo.mk (by kernel_rfl)) only [go_sem, seval]
  exact LeV.of_eq (by rw [e1, hk]; congr 1; omega)
/-- How often 2 goes into it. -/
def tz (n : Nat) : Nat := if h : n = 0 then 0 else if n % 2 = 1 then 0 else tz (n / 2) + 1
termination_by n
decreasing_by omega
theorem tz_odd {n : Nat} (h : n % 2 = 1) : tz n = 0 := by rw [tz]; simp [h]
theorem tz_two {n : Nat} (h : n ≠ 0) : tz (2 * n) = tz n + 1 := by
  rw [tz, dif_neg (by omega), if_neg (by omega), show 2 * n / 2 = n by omega]
theorem tz_pow {n : Nat} (h : n ≠ 0) : ∀ k, tz (2 ^ k * n) = k + tz n
  | 0 => by rw [Nat.pow_zero, Nat.one_mul, Nat.zero_add]
  | k + 1 => by
    have hp : 2 ^ k * n ≠ 0 := Nat.mul_ne_zero (Nat.pos_iff_ne_zero.1 (Nat.two_pow_pos k)) h
    rw [Nat.pow_succ, Nat.mul_comm (2 ^ k), Nat.mul_assoc, tz_two hp, tz_pow h k]; omega
theorem tz_spec {n : Nat} (h : n ≠ 0) : ∃ a, n = 2 ^ tz n * (2 * a + 1) := by
  induction n using Nat.strongRecOn with
  | _ n ih =>
    by_cases h1 : n % 2 = 1
    · exact ⟨n / 2, by rw [tz_odd h1, Nat.pow_zero, Nat.one_mul]; omega⟩
    · obtain ⟨a, ha⟩ := ih (n / 2) (by omega) (by omega)
      refine ⟨a, ?_⟩
      have e : tz n = tz (n / 2) + 1 := by rw [tz, dif_neg h, if_neg h1]
      rw [e, Nat.pow_succ, Nat.mul_comm _ 2, Nat.mul_assoc, ← ha]; omega
theorem low_bit (k a w : Nat) (hw : 2 ^ k * (2 * a + 1) < 2 ^ w) : (2 ^ k * (2 * a + 1)) &&& (2 ^ w - 2 ^ k * (2 * a + 1)) = 2 ^ k := by
  have hp := Nat.two_pow_pos k
  have hx : 0 < 2 ^ k * (2 * a + 1) := Nat.mul_pos hp (by omega)
  have e1 : 2 ^ k * (2 * a + 1) = 2 ^ k * (2 * a) + 2 ^ k := by rw [Nat.mul_add, Nat.mul_one]
  have e2 : 2 ^ w - 2 ^ k * (2 * a + 1) = 2 ^ w - (2 ^ k * (2 * a) + (2 ^ k - 1) + 1) := by rw [e1]; omega
  have hlt : 2 ^ k * (2 * a) + (2 ^ k - 1) < 2 ^ w := by omega
  refine Nat.eq_of_testBit_eq fun i => ?_
  rw [Nat.testBit_and, e2, Nat.testBit_two_pow_sub_succ hlt, Nat.testBit_two_pow_mul_add _ (by omega), Nat.testBit_two_pow_mul, Nat.testBit_two_pow]
  by_cases h1 : i < k
  · have : ¬ k ≤ i := by omega
    simp [h1, this]; omega
  · simp only [h1, if_false]
    have h2 : k ≤ i := by omega
    by_cases h3 : i = k
    · have hkw : k < w := by
        refine (Nat.pow_lt_pow_iff_right (a := 2) (by omega)).1 ?_
        omega
      rw [h3]
      simp [hkw, Nat.testBit_zero]
    · obtain ⟨j, rfl⟩ : ∃ j, i = k + (j + 1) := ⟨i - k - 1, by omega⟩
      rw [show k + (j + 1) - k = j + 1 by omega, Nat.testBit_succ, Nat.testBit_succ, show (2 * a + 1) / 2 = a by omega, show 2 * a / 2 = a by omega]
      have : ¬ k = k + (j + 1) := by omega
      cases a.testBit j <;> simp [this]
theorem bits_and32 (a b : Nat) (ha : a < 4294967296) (hb : b < 4294967296) : bits .u32 .and (a : Int) (b : Int) = ((a &&& b : Nat) : Int) := by
  have e : ∀ v : Nat, v < 4294967296 → (BitVec.ofInt IntKind.u32.bits (v : Int)).toNat = v := fun v hv => by
    show (BitVec.ofInt 32 (v : Int)).toNat = v
    simp; omega
  have hlt : a &&& b < 4294967296 := Nat.and_lt_two_pow (n := 32) _ hb
  unfold bits
  simp only [BitVec.toNat_and, e a ha, e b hb]
  rw [wrap_u32 (by omega)]
theorem deBr_at : ∀ k : Nat, k < 32 → 2 ^ k * 125613361 % 4294967296 / 134217728 < 32 ∧ deBr.getD (2 ^ k * 125613361 % 4294967296 / 134217728) 0 = (k : Int) := by decide +kernel
theorem gv_deBr : E.gv 0 = .ra true 32 deBrD 0 := Eq.trans rfl rfl
theorem deBr_len : deBr.length = 32 := rfl
theorem tz_table {x : Nat} (h0 : x ≠ 0) (hx : x < 4294967296) : ∃ p q j : Nat, bits .u32 .and (x : Int) (IntKind.u32.wrap (0 - (x : Int))) = (p : Int) ∧ IntKind.u32.wrap ((p : Int) * 125613361) = (q : Int) ∧ (q : Int) / 134217728 = (j : Int) ∧ j < 32 ∧ deBr.getD j 0 = (tz x : Int) := by
  obtain ⟨a, ha⟩ := tz_spec h0
  generalize tz x = k at *
  have hk : k < 32 := by
    refine (Nat.pow_lt_pow_iff_right (a := 2) (by omega)).1 ?_
    have : 2 ^ k * 1 ≤ 2 ^ k * (2 * a + 1) := Nat.mul_le_mul_left _ (by omega)
    omega
  have hl := low_bit k a 32 (by rw [← ha]; exact hx)
  rw [← ha, show (2 : Nat) ^ 32 = 4294967296 from rfl] at hl
  have e1 : IntKind.u32.wrap (0 - (x : Int)) = ((4294967296 - x : Nat) : Int) := by rw [wrap_u32']; omega
  have e2 : bits .u32 .and (x : Int) ((4294967296 - x : Nat) : Int) = ((2 ^ k : Nat) : Int) := by
    rw [bits_and32 _ _ hx (by omega), hl]
  obtain ⟨h1, h2⟩ := deBr_at k hk
  refine ⟨2 ^ k, 2 ^ k * 125613361 % 4294967296, 2 ^ k * 125613361 % 4294967296 / 134217728, by rw [e1, e2], ?_, ?_, h1, h2⟩
  · rw [wrap_u32']; generalize 2 ^ k = p; omega
  · generalize 2 ^ k * 125613361 % 4294967296 = q; omega
theorem deBr_map {j k : Nat} (h1 : j < 32) (h2 : deBr.getD j 0 = (k : Int)) : (deBr.map fun n => D.int .u8 n).getD j .unk = .int .u8 (k : Int) := by
  rw [List.getD_eq_getElem?_getD] at h2 ⊢
  rw [List.getElem?_map]
  have hj : j < deBr.length := h1
  rw [List.getElem?_eq_getElem hj] at h2 ⊢
  simp only [Option.getD_some, Option.map_some] at h2 ⊢
  rw [h2]
theorem bits_TrailingZeros32 {x : Nat} (h0 : x ≠ 0) (hx : x < 4294967296) : C E 167 [.int .u32 x] (.int .i64 (tz x)) := by
  refine CG_intro Tryz.func167 rfl (by kernel_rfl) rfl (by kernel_rfl) (by kernel_rfl) rfl ?_
  obtain ⟨p, q, j, e2, e3, e4, h1, h2⟩ := tz_table h0 hx
  have hk : (tz x : Int) < 32 := by
    have : ∀ j : Nat, j < 32 → deBr.getD j 0 < 32 := by decide +kernel
    rw [← h2]; exact this j h1
  have hb := deBr_map h1 h2
  generalize tz x = k at *
  clear h2
  simp (maxSteps := 3000000) (disch := first | exact trivial | assumption | omega | exact RegOk.mk (by decide +kernel) | exact RegCl.mk (by decide +kernel) | exact RegNo.mk (by kernel_rfl)) only [go_sem, seval, e2, e3, e4, gv_deBr, deBrD, deBr_len, hb]
end Go.Proofs.YtmcinfbckdiaoaaGreatDoor.Lv
