/- Numbers as bytes: Get, of the program and of the reference. -/
import Derived.Test.YtpobbfhdkbnpmaaDoorVA
set_option linter.unusedVariables false
set_option linter.unusedSimpArgs false
set_option maxRecDepth 100000
set_option maxHeartbeats 4000000
namespace Go.Proofs.YtpobbfhdkbnpmaaDoor.Lv
open Go Go.RowKit

/-- A number at a place: the i-th byte and those behind it, v being read so far. -/
def vgo (b : List UInt8) (a : Nat) (i v : Nat) : Nat → Nat × Nat × Nat
  | 0 => (0, 0, 6)
  | f + 1 => if b.length ≤ a + i then (0, 0, 4) else
    if i = 9 ∧ 1 < (b.getD (a + i) 0).toNat ∨ 0 < i ∧ (b.getD (a + i) 0).toNat = 0 then (0, 0, 6) else
    if (b.getD (a + i) 0).toNat < 128 then (v + 2 ^ (7 * i) * ((b.getD (a + i) 0).toNat % 128), a + i + 1, 0) else
    vgo b a (i + 1) (v + 2 ^ (7 * i) * ((b.getD (a + i) 0).toNat % 128)) f
def vget (b : List UInt8) (a : Int) : Nat × Nat × Nat := if a < 0 ∨ (b.length : Int) < a then (0, 0, 1) else vgo b a.toNat 0 0 10
def vgD (x : Nat × Nat × Nat) : D := .tup [.int .u64 x.1, .int .i64 x.2.1, .int .i64 x.2.2]
theorem vgo_next {v i : Nat} (c : Nat) (hi : i ≤ 9) (hc : c < 128) (h9 : i = 9 → c ≤ 1) (hv : v < 2 ^ (7 * i)) : v + 2 ^ (7 * i) * c < 18446744073709551616 ∧ (i < 9 → v + 2 ^ (7 * i) * c < 2 ^ (7 * (i + 1))) ∧ 2 ^ (7 * i) * c < 18446744073709551616 := by
  have h9' : i < 9 ∨ c ≤ 1 := by
    by_cases e : i = 9
    · exact .inr (h9 e)
    · exact .inl (by omega)
  clear h9
  rcases (show i = 0 ∨ i = 1 ∨ i = 2 ∨ i = 3 ∨ i = 4 ∨ i = 5 ∨ i = 6 ∨ i = 7 ∨ i = 8 ∨ i = 9 by omega) with rfl | rfl | rfl | rfl | rfl | rfl | rfl | rfl | rfl | rfl <;> simp only [Nat.reduceMul, Nat.reducePow, Nat.reduceAdd] at * <;> omega
theorem vgo_or {v i : Nat} (c : Nat) (hi : i ≤ 9) (hc : c < 128) (h9 : i = 9 → c ≤ 1) (hv : v < 2 ^ (7 * i)) : bits .u64 .or (v : Int) (IntKind.u64.wrap ((c : Int) * ((2 ^ (7 * i) : Nat) : Int))) = ((v + 2 ^ (7 * i) * c : Nat) : Int) := by
  obtain ⟨h1, _, h2⟩ := vgo_next c hi hc h9 hv
  rw [show (c : Int) * ((2 ^ (7 * i) : Nat) : Int) = ((2 ^ (7 * i) * c : Nat) : Int) by rw [Int.natCast_mul, Int.mul_comm]]
  rw [← or_add _ c v hv]
  generalize 2 ^ (7 * i) * c = m at *
  rw [wrap_u64 ⟨by omega, by omega⟩, bits_or _ _ (by omega) h2]
theorem vint_Get (b : List UInt8) (a : Int) (ha : -9223372036854775808 ≤ a ∧ a ≤ 9223372036854775807) (hb : b.length < 1099511627776) : C E 48 [.str b, .int .i64 a] (vgD (vget b a)) := by
  refine CG_intro Tryd.func48 rfl (by kernel_rfl) rfl (by kernel_rfl) (by kernel_rfl) rfl ?_
  simp (maxSteps := 3000000) (disch := first | exact trivial | assumption | omega | exact RegOk.mk (by decide +kernel) | exact RegCl.mk (by decide +kernel) | exact RegNo.mk (by kernel_rfl)) only [go_sem, seval]
  by_cases h1 : a < 0
  · simp (maxSteps := 3000000) (disch := first | exact trivial | assumption | omega | exact RegOk.mk (by decide +kernel) | exact RegCl.mk (by decide +kernel) | exact RegNo.mk (by kernel_rfl)) only [go_sem, seval]
    rw [vget, if_pos (.inl h1)]
    exact LeV.refl _
  by_cases h2 : (b.length : Int) < a
  · simp (maxSteps := 3000000) (disch := first | exact trivial | assumption | omega | exact RegOk.mk (by decide +kernel) | exact RegCl.mk (by decide +kernel) | exact RegNo.mk (by kernel_rfl)) only [go_sem, seval]
    rw [vget, if_pos (.inr h2)]
    exact LeV.refl _
  simp (maxSteps := 3000000) (disch := first | exact trivial | assumption | omega | exact RegOk.mk (by decide +kernel) | exact RegCl.mk (by decide +kernel) | exact RegNo.mk (by kernel_rfl)) only [go_sem, seval]
  obtain ⟨n, rfl⟩ := Int.eq_ofNat_of_zero_le (show 0 ≤ a by omega)
  have hr : vget b (n : Int) = vgo b n 0 0 10 := by rw [vget, if_neg (by omega), Int.toNat_natCast]
  generalize vget b (n : Int) = res at *
  refine AL.of (fun x : Nat × Nat => x.1 ≤ 9 ∧ x.2 < 2 ^ (7 * x.1) ∧ res = vgo b n x.1 x.2 (10 - x.1)) (fun x => 10 - x.1) (fun x => [(0, .str b), (1, .int .i64 n), (7, .int .u64 x.2), (18, .int .i64 x.1)])
    (fun _ => []) (0, 0) ⟨by omega, by decide, hr⟩ ?_ ?_ ?_ ?_
  · simp (maxSteps := 3000000) (disch := first | exact trivial | assumption | omega | exact RegOk.mk (by decide +kernel) | exact RegCl.mk (by decide +kernel) | exact RegNo.mk (by kernel_rfl)) only [go_sem, seval]
  · trivial
  · intro x _; simp (maxSteps := 3000000) (disch := first | exact trivial | assumption | omega | exact RegOk.mk (by decide +kernel) | exact RegCl.mk (by decide +kernel) | exact RegNo.mk (by kernel_rfl)) only [go_sem, seval]
  rintro ⟨i, v⟩ ⟨hi, hv, hr⟩
  simp only at hi hv hr
  rw [show 10 - i = (9 - i) + 1 by omega, vgo] at hr
  by_cases h3 : b.length ≤ n + i
  · rw [if_pos h3] at hr
    subst hr
    simp (maxSteps := 3000000) (disch := first | exact trivial | assumption | omega | exact RegOk.mk (by decide +kernel) | exact RegCl.mk (by decide +kernel) | exact RegNo.mk (by kernel_rfl)) only [go_sem, seval]
    exact LeV.refl _
  rw [if_neg h3] at hr
  have hin : ((n : Int) + (i : Int)).toNat = n + i := by omega
  have hc := (b.getD (n + i) 0).toNat_lt
  generalize hcc : (b.getD (n + i) 0).toNat = c at *
  have e7 : (((7 : Int) * (i : Int)).toNat) = 7 * i := by omega
  have em : min (7 * i) 64 = 7 * i := by omega
  have ew : IntKind.u64.wrap (((c % 128 : Nat) : Int)) = ((c % 128 : Nat) : Int) := wrap_u64 (by omega)
  have et : ((c : Int).tmod 128) = ((c % 128 : Nat) : Int) := by
    rw [Int.tmod_eq_emod_of_nonneg (by omega)]; omega
  by_cases hbad : i = 9 ∧ 1 < c ∨ 0 < i ∧ c = 0
  · rw [if_pos hbad] at hr
    subst hr
    by_cases h9 : i = 9
    · by_cases h1 : 1 < c
      · simp (maxSteps := 3000000) (disch := first | exact trivial | assumption | omega | exact RegOk.mk (by decide +kernel) | exact RegCl.mk (by decide +kernel) | exact RegNo.mk (by kernel_rfl)) only [go_sem, seval, hin, hcc, e7, em, et, ew]
        exact LeV.refl _
      · simp (maxSteps := 3000000) (disch := first | exact trivial | assumption | omega | exact RegOk.mk (by decide +kernel) | exact RegCl.mk (by decide +kernel) | exact RegNo.mk (by kernel_rfl)) only [go_sem, seval, hin, hcc, e7, em, et, ew]
        exact LeV.refl _
    · simp (maxSteps := 3000000) (disch := first | exact trivial | assumption | omega | exact RegOk.mk (by decide +kernel) | exact RegCl.mk (by decide +kernel) | exact RegNo.mk (by kernel_rfl)) only [go_sem, seval, hin, hcc, e7, em, et, ew]
      exact LeV.refl _
  · rw [if_neg hbad] at hr
    have ho := vgo_or (v := v) (c % 128) hi (by omega) (by omega) hv
    obtain ⟨_, hv2, _⟩ := vgo_next (v := v) (c % 128) hi (by omega) (by omega) hv
    generalize v + 2 ^ (7 * i) * (c % 128) = v' at *
    by_cases hlt : c < 128
    · rw [if_pos hlt] at hr
      subst hr
      by_cases h9 : i = 9
      · by_cases h0 : c = 0
        · omega
        · simp (maxSteps := 3000000) (disch := first | exact trivial | assumption | omega | exact RegOk.mk (by decide +kernel) | exact RegCl.mk (by decide +kernel) | exact RegNo.mk (by kernel_rfl)) only [go_sem, seval, hin, hcc, e7, em, et, ew, ho]
          exact LeV.refl _
      · by_cases h0 : c = 0
        · simp (maxSteps := 3000000) (disch := first | exact trivial | assumption | omega | exact RegOk.mk (by decide +kernel) | exact RegCl.mk (by decide +kernel) | exact RegNo.mk (by kernel_rfl)) only [go_sem, seval, hin, hcc, e7, em, et, ew, ho]
          exact LeV.refl _
        · simp (maxSteps := 3000000) (disch := first | exact trivial | assumption | omega | exact RegOk.mk (by decide +kernel) | exact RegCl.mk (by decide +kernel) | exact RegNo.mk (by kernel_rfl)) only [go_sem, seval, hin, hcc, e7, em, et, ew, ho]
          exact LeV.refl _
    · rw [if_neg hlt] at hr
      simp (maxSteps := 3000000) (disch := first | exact trivial | assumption | omega | exact RegOk.mk (by decide +kernel) | exact RegCl.mk (by decide +kernel) | exact RegNo.mk (by kernel_rfl)) only [go_sem, seval, hin, hcc, e7, em, et, ew, ho]
      refine ⟨(i + 1, v'), ⟨by show i + 1 ≤ 9; omega, hv2 (by omega), by rw [hr, show 9 - i = 10 - (i + 1) by omega]⟩, by show 10 - (i + 1) < 10 - i; omega, ?_, ?_⟩
      · simp (maxSteps := 3000000) (disch := first | exact trivial | assumption | omega | exact RegOk.mk (by decide +kernel) | exact RegCl.mk (by decide +kernel) | exact RegNo.mk (by kernel_rfl)) only [go_sem, seval]
        exact LeV.of_eq (by rw [Int.natCast_succ])
      · trivial
end Go.Proofs.YtpobbfhdkbnpmaaDoor.Lv
