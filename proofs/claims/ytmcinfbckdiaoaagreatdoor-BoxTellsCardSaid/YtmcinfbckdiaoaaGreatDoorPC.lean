/- The program's numbers: Zeros, Cmp. -/
import Derived.Test.YtmcinfbckdiaoaaGreatDoorPB
set_option linter.unusedVariables false
set_option linter.unusedSimpArgs false
set_option maxRecDepth 100000
set_option maxHeartbeats 4000000
namespace Go.Proofs.YtmcinfbckdiaoaaGreatDoor.Lv
open Go Go.RowKit

theorem bits_LeadingZeros32 {x : Nat} (hx : x < 4294967296) : C E 139 [.int .u32 x] (.int .i64 ((32 - nbit x : Nat) : Int)) := by
  refine CG_intro Tryz.func139 rfl (by kernel_rfl) rfl (by kernel_rfl) (by kernel_rfl) rfl ?_
  have hnb : nbit x ≤ 32 := nbit_lt.2 hx
  simp (maxSteps := 3000000) (disch := first | exact trivial | assumption | omega | exact RegOk.mk (by decide +kernel) | exact RegCl.mk (by decide +kernel) | exact RegNo.mk (by kernel_rfl)) only [go_sem, seval]
  refine callC (bits_Len32 hx) (LesV.refl _) rfl ?_
  simp (maxSteps := 3000000) (disch := first | exact trivial | assumption | omega | exact RegOk.mk (by decide +kernel) | exact RegCl.mk (by decide +kernel) | exact RegNo.mk (by kernel_rfl)) only [go_sem, seval]
  exact LeV.of_eq (by congr 1; omega)
theorem tz_add (x r : Nat) (h0 : x ≠ 0) (hx : x < 4294967296) : tz (x + 4294967296 * r) = tz x := by
  obtain ⟨a, ha⟩ := tz_spec h0
  have hk : tz x < 32 := by
    refine (Nat.pow_lt_pow_iff_right (a := 2) (by omega)).1 ?_
    have : 2 ^ tz x * 1 ≤ 2 ^ tz x * (2 * a + 1) := Nat.mul_le_mul_left _ (by omega)
    omega
  generalize tz x = t at *
  obtain ⟨j, hj⟩ : ∃ j, 32 = t + (j + 1) := ⟨31 - t, by omega⟩
  have e : x + 4294967296 * r = 2 ^ t * (2 * (a + 2 ^ j * r) + 1) := by
    have h32 : (4294967296 : Nat) = 2 ^ t * (2 * 2 ^ j) := by
      rw [show 2 * 2 ^ j = 2 ^ (j + 1) by rw [Nat.pow_succ, Nat.mul_comm], ← Nat.pow_add, ← hj]
    conv => lhs; rw [h32, ha]
    rw [Nat.mul_assoc, ← Nat.mul_add, Nat.mul_assoc 2]
    congr 1
    omega
  rw [e, tz_pow (n := 2 * (a + 2 ^ j * r) + 1) (by omega), tz_odd (n := 2 * (a + 2 ^ j * r) + 1) (by omega), Nat.add_zero]
theorem tz_limbs {n i : Nat} (hz : ∀ j, j < i → (limbs n).getD j 0 = 0) (hx : (limbs n).getD i 0 ≠ 0) : tz n = 32 * i + tz ((limbs n).getD i 0) := by
  have hil : i < (limbs n).length := by
    rcases Nat.lt_or_ge i (limbs n).length with h | h
    · exact h
    · exact absurd (by rw [List.getD_eq_getElem?_getD, List.getElem?_eq_none h]; rfl) hx
  have hv := val_cut (limbs n) i (by omega)
  have hd : (limbs n).drop i = (limbs n).getD i 0 :: (limbs n).drop (i + 1) := by
    rw [List.drop_eq_getElem_cons hil, List.getD_eq_getElem?_getD, List.getElem?_eq_getElem hil]; rfl
  have ht : val ((limbs n).take i) = 0 := val_zero_iff.2 fun x hx' => by
    obtain ⟨j, hj, rfl⟩ := List.getElem_of_mem hx'
    rw [List.length_take] at hj
    have := hz j (by omega)
    rw [List.getD_eq_getElem?_getD, List.getElem?_eq_getElem (by omega)] at this
    rw [List.getElem_take]; exact this
  rw [val_limbs, ht, hd, val, Nat.zero_add, show (4294967296 : Nat) ^ i = 2 ^ (32 * i) by rw [Nat.pow_mul]] at hv
  have hlt := lows_getD (limbs_low n) i
  conv => lhs; rw [hv]
  rw [tz_pow (by omega), tz_add _ _ hx hlt]
theorem nat_Zeros {n : Nat} (hn : nb n < 1073741824) : C E 144 [natD n] (.int .i64 (tz n)) := by
  refine CG_intro Tryz.func144 rfl (by kernel_rfl) rfl (by kernel_rfl) (by kernel_rfl) rfl ?_
  unfold nb at hn
  simp (maxSteps := 3000000) (disch := first | exact trivial | assumption | omega | exact RegOk.mk (by decide +kernel) | exact RegCl.mk (by decide +kernel) | exact RegNo.mk (by kernel_rfl)) only [go_sem, seval, natD, u32s]
  refine AL.of (fun i : Nat => i ≤ (limbs n).length ∧ ∀ j, j < i → (limbs n).getD j 0 = 0) (fun i => (limbs n).length - i)
    (fun i => [(6, .ro false 1 (limbs n).length (lR (limbs n))), (7, .int .i64 (limbs n).length), (8, .int .i64 i)]) (fun _ => []) 0 ⟨by omega, fun j h => by omega⟩ ?_ ?_ ?_ ?_
  · simp (maxSteps := 3000000) (disch := first | exact trivial | assumption | omega | exact RegOk.mk (by decide +kernel) | exact RegCl.mk (by decide +kernel) | exact RegNo.mk (by kernel_rfl)) only [go_sem, seval]
    exact LeV.refl _
  · trivial
  · intro x _; simp (maxSteps := 3000000) (disch := first | exact trivial | assumption | omega | exact RegOk.mk (by decide +kernel) | exact RegCl.mk (by decide +kernel) | exact RegNo.mk (by kernel_rfl)) only [go_sem, seval]
  rintro i ⟨hi, hz⟩
  by_cases hil : i = (limbs n).length
  · subst hil
    simp (maxSteps := 3000000) (disch := first | exact trivial | assumption | omega | exact RegOk.mk (by decide +kernel) | exact RegCl.mk (by decide +kernel) | exact RegNo.mk (by kernel_rfl)) only [go_sem, seval]
    have h0 : n = 0 := by
      rw [← val_limbs n]
      refine val_zero_iff.2 fun x hx => ?_
      obtain ⟨j, hj, rfl⟩ := List.getElem_of_mem hx
      have := hz j hj
      rw [List.getD_eq_getElem?_getD, List.getElem?_eq_getElem hj] at this
      exact this
    exact LeV.of_eq (by rw [h0, tz]; rfl)
  · have hlt := lows_getD (limbs_low n) i
    by_cases hx : (limbs n).getD i 0 = 0
    · simp (maxSteps := 3000000) (disch := first | exact trivial | assumption | omega | exact RegOk.mk (by decide +kernel) | exact RegCl.mk (by decide +kernel) | exact RegNo.mk (by kernel_rfl)) only [go_sem, seval, lR]
      refine ⟨i + 1, ⟨by omega, fun j hj => ?_⟩, by show (limbs n).length - (i + 1) < (limbs n).length - i; omega, ?_, ?_⟩
      · by_cases e : j = i
        · subst e; exact hx
        · exact hz j (by omega)
      · simp (maxSteps := 3000000) (disch := first | exact trivial | assumption | omega | exact RegOk.mk (by decide +kernel) | exact RegCl.mk (by decide +kernel) | exact RegNo.mk (by kernel_rfl)) only [go_sem, seval]
        exact LeV.of_eq (by rw [Int.natCast_succ])
      · trivial
    · have ht := tz_limbs hz hx
      have htl : tz ((limbs n).getD i 0) < 32 := by
        obtain ⟨a, ha⟩ := tz_spec hx
        refine (Nat.pow_lt_pow_iff_right (a := 2) (by omega)).1 ?_
        have : 2 ^ tz ((limbs n).getD i 0) * 1 ≤ 2 ^ tz ((limbs n).getD i 0) * (2 * a + 1) := Nat.mul_le_mul_left _ (by omega)
        omega
      simp (maxSteps := 3000000) (disch := first | exact trivial | assumption | omega | exact RegOk.mk (by decide +kernel) | exact RegCl.mk (by decide +kernel) | exact RegNo.mk (by kernel_rfl)) only [go_sem, seval, lR]
      refine callC (bits_TrailingZeros32 hx hlt) (LesV.refl _) rfl ?_
      simp (maxSteps := 3000000) (disch := first | exact trivial | assumption | omega | exact RegOk.mk (by decide +kernel) | exact RegCl.mk (by decide +kernel) | exact RegNo.mk (by kernel_rfl)) only [go_sem, seval]
      exact LeV.of_eq (by rw [ht]; congr 1; try omega)
theorem backward_u32 (l : List Nat) : CG E 90 [u32s l] [] (.fn 135 [.ad 0 0]) [(0, .var false 1 (u32s l))] := by
  refine CG_intro Tryz.func90 rfl (by kernel_rfl) rfl (by kernel_rfl) (by kernel_rfl) rfl ?_
  simp (maxSteps := 3000000) (disch := first | exact trivial | assumption | omega | exact RegOk.mk (by decide +kernel) | exact RegCl.mk (by decide +kernel) | exact RegNo.mk (by kernel_rfl)) only [go_sem, seval]
theorem cmp_len {a b : Nat} (h : (limbs a).length < (limbs b).length) : a < b := by
  have h1 := (nb_lt (n := a) (k := (limbs a).length)).1 (Nat.le_refl _)
  rcases Nat.lt_or_ge a b with h' | h'
  · exact h'
  · have := (nb_lt (n := b) (k := (limbs a).length)).2 (by omega)
    unfold nb at this
    omega
theorem cmp_at {l m : List Nat} {k : Nat} (hl : lows l) (hm : lows m) (e : l.length = m.length) (hk : k < l.length) (hd : l.drop (k + 1) = m.drop (k + 1)) (h : l.getD k 0 < m.getD k 0) : val l < val m := by
  have h1 := val_cut l (k + 1) (by omega)
  have h2 := val_cut m (k + 1) (by omega)
  rw [val_take_succ, hd] at h1
  rw [val_take_succ] at h2
  have h3 := val_ltB (lows_take hl k)
  rw [List.length_take, Nat.min_eq_left (by omega)] at h3
  have h4 : 4294967296 ^ k * l.getD k 0 + 4294967296 ^ k ≤ 4294967296 ^ k * m.getD k 0 := by
    rw [← Nat.mul_succ]; exact Nat.mul_le_mul_left _ h
  rw [h1, h2]
  generalize 4294967296 ^ (k + 1) * val (m.drop (k + 1)) = t at *
  generalize 4294967296 ^ k * l.getD k 0 = u at *
  generalize 4294967296 ^ k * m.getD k 0 = v at *
  omega
end Go.Proofs.YtmcinfbckdiaoaaGreatDoor.Lv
