/- Numbers as bytes: Put, of the program and of the reference. -/
import Derived.Test.YtpobbfhdkbnpmaaDoorBy
set_option linter.unusedVariables false
set_option linter.unusedSimpArgs false
set_option maxRecDepth 100000
set_option maxHeartbeats 4000000
namespace Go.Proofs.YtpobbfhdkbnpmaaDoor.Lv
open Go Go.RowKit

/-- A number's bytes. -/
def vput (v : Nat) : List UInt8 := if v < 128 then [UInt8.ofNat v] else UInt8.ofNat (v % 128 + 128) :: vput (v / 128)
termination_by v
theorem vput_lt {v : Nat} (h : v < 128) : vput v = [UInt8.ofNat v] := by rw [vput, if_pos h]
theorem vput_ge {v : Nat} (h : ¬ v < 128) : vput v = UInt8.ofNat (v % 128 + 128) :: vput (v / 128) := by rw [vput, if_neg h]
theorem bits_or128 (n : Nat) (h : n < 256) : bits .u8 .or (n : Int) 128 = ((n % 128 + 128 : Nat) : Int) := by
  have : ∀ n : Fin 256, bits .u8 .or ((n.val : Nat) : Int) 128 = ((n.val % 128 + 128 : Nat) : Int) := by decide +kernel
  exact this ⟨n, h⟩
/-- How far it has come: what is left, and the bytes. -/
def PutP (v : Nat) (x : Nat × List UInt8) : Prop := x.2.length ≤ 9 ∧ x.1 < 2 ^ (64 - 7 * x.2.length) ∧ x.2 ++ vput x.1 = vput v
theorem PutP.next {v : Nat} {x : Nat × List UInt8} (h : PutP v x) (h1 : ¬ x.1 < 128) : PutP v (x.1 / 128, x.2 ++ [UInt8.ofNat (x.1 % 128 + 128)]) := by
  obtain ⟨a, l⟩ := x
  obtain ⟨h2, h3, h4⟩ := h
  simp only at h1 h2 h3 h4
  have hk : l.length ≤ 8 ∧ a / 128 < 2 ^ (64 - 7 * (l.length + 1)) := by
    generalize l.length = k at h2 h3
    rcases (show k = 0 ∨ k = 1 ∨ k = 2 ∨ k = 3 ∨ k = 4 ∨ k = 5 ∨ k = 6 ∨ k = 7 ∨ k = 8 ∨ k = 9 by omega) with rfl | rfl | rfl | rfl | rfl | rfl | rfl | rfl | rfl | rfl <;> omega
  refine ⟨?_, ?_, ?_⟩
  · simp only [List.length_append, List.length_singleton]; omega
  · simp only [List.length_append, List.length_singleton]; exact hk.2
  · rw [← h4, vput_ge h1]; simp
theorem byte_app (l : List UInt8) (n : Nat) (hn : n < 256) {i : Nat} (hi : i < l.length + 1) : (if i < l.length then bR l i else [D.int .u8 (n : Int)].getD (i - l.length) .unk) = bR (l ++ [UInt8.ofNat n]) i := by
  have := bR_app l [UInt8.ofNat n] (i := i) (by simpa using hi)
  rw [List.map_singleton, ← u8_lit hn] at this
  exact this
theorem vint_Put (v : Nat) (hv : v < 18446744073709551616) : C E 46 [.int .u64 v] (.str (vput v)) := by
  refine CG_intro Tryd.func46 rfl (by kernel_rfl) rfl (by kernel_rfl) (by kernel_rfl) rfl ?_
  simp (maxSteps := 3000000) (disch := first | exact trivial | assumption | omega | exact RegOk.mk (by decide +kernel) | exact RegCl.mk (by decide +kernel) | exact RegNo.mk (by kernel_rfl)) only [go_sem, seval]
  refine AL.ofN 3 false 1 (bR []) (PutP v) (fun x => x.1) (fun x => [(0, .int .u64 x.1), (3, .sl 0 x.2.length 0 x.2.length)])
    (fun x => [(0, .row false x.2.length false 1 x.2.length (bR x.2))]) (v, []) (by kernel_rfl) ⟨by simp, by simpa using hv, rfl⟩ ?_ ?_ ?_ ?_
  · simp (maxSteps := 3000000) (disch := first | exact trivial | assumption | omega | exact RegOk.mk (by decide +kernel) | exact RegCl.mk (by decide +kernel) | exact RegNo.mk (by kernel_rfl)) only [go_sem, seval]
  · simp (maxSteps := 3000000) (disch := first | exact trivial | assumption | omega | exact RegOk.mk (by decide +kernel) | exact RegCl.mk (by decide +kernel) | exact RegNo.mk (by kernel_rfl)) only [go_sem, seval]
    exact fun _ _ => trivial
  · intro x _; simp (maxSteps := 3000000) (disch := first | exact trivial | assumption | omega | exact RegOk.mk (by decide +kernel) | exact RegCl.mk (by decide +kernel) | exact RegNo.mk (by kernel_rfl)) only [go_sem, seval]
  rintro ⟨a, l⟩ hP
  have hn := hP.next
  obtain ⟨h2, h3, h4⟩ := hP
  simp only at h2 h3 h4 hn
  have ha : a < 18446744073709551616 := Nat.lt_of_lt_of_le h3 (by
    rw [show (18446744073709551616 : Nat) = 2 ^ 64 from rfl]
    exact Nat.pow_le_pow_right (by omega) (by omega))
  by_cases h : a < 128
  · have e : IntKind.u8.wrap (a : Int) = a := wrap_u8 (by omega)
    simp (maxSteps := 3000000) (disch := first | exact trivial | assumption | omega | exact RegOk.mk (by decide +kernel) | exact RegCl.mk (by decide +kernel) | exact RegNo.mk (by kernel_rfl)) only [go_sem, seval, e]
    refine ⟨.inl trivial, .inr trivial, by omega, by omega, ?_⟩
    rw [vput_lt h] at h4
    rw [bstr_of (l := vput v) rfl (by rw [← h4]; simp) fun i hi => (byte_app l a (by omega) hi).trans (by rw [h4])]
    simp (maxSteps := 3000000) (disch := first | exact trivial | assumption | omega | exact RegOk.mk (by decide +kernel) | exact RegCl.mk (by decide +kernel) | exact RegNo.mk (by kernel_rfl)) only [go_sem, seval]
  · have e : IntKind.u8.wrap (a : Int) = ((a % 256 : Nat) : Int) := by rw [wrap_u8']; omega
    have e2 : bits .u8 .or ((a % 256 : Nat) : Int) 128 = ((a % 128 + 128 : Nat) : Int) := by
      rw [bits_or128 _ (by omega)]; congr 1; omega
    have e3 : (a : Int) / 128 = ((a / 128 : Nat) : Int) := by omega
    simp (maxSteps := 3000000) (disch := first | exact trivial | assumption | omega | exact RegOk.mk (by decide +kernel) | exact RegCl.mk (by decide +kernel) | exact RegNo.mk (by kernel_rfl)) only [go_sem, seval, e, e2, e3]
    refine ⟨.inl trivial, .inr trivial, by omega, by omega, (a / 128, l ++ [UInt8.ofNat (a % 128 + 128)]), hn h, by show a / 128 < a; omega, ?_, ?_⟩
    · simp (maxSteps := 3000000) (disch := first | exact trivial | assumption | omega | exact RegOk.mk (by decide +kernel) | exact RegCl.mk (by decide +kernel) | exact RegNo.mk (by kernel_rfl)) only [go_sem, seval]
    · simp (maxSteps := 3000000) (disch := first | exact trivial | assumption | omega | exact RegOk.mk (by decide +kernel) | exact RegCl.mk (by decide +kernel) | exact RegNo.mk (by kernel_rfl)) only [go_sem, seval]
      exact fun i hi => Le.of_eq (byte_app l _ (by omega) hi)
theorem r2_Put (v : Nat) (hv : v < 18446744073709551616) : C E 47 [.int .u64 v] (.str (vput v)) := by
  refine CG_intro Tryd.func47 rfl (by kernel_rfl) rfl (by kernel_rfl) (by kernel_rfl) rfl ?_
  simp (maxSteps := 3000000) (disch := first | exact trivial | assumption | omega | exact RegOk.mk (by decide +kernel) | exact RegCl.mk (by decide +kernel) | exact RegNo.mk (by kernel_rfl)) only [go_sem, seval]
  refine AL.ofN 3 false 1 (bR []) (PutP v) (fun x => x.1) (fun x => [(0, .int .u64 x.1), (3, .sl 0 x.2.length 0 x.2.length)])
    (fun x => [(0, .row false x.2.length false 1 x.2.length (bR x.2))]) (v, []) (by kernel_rfl) ⟨by simp, by simpa using hv, rfl⟩ ?_ ?_ ?_ ?_
  · simp (maxSteps := 3000000) (disch := first | exact trivial | assumption | omega | exact RegOk.mk (by decide +kernel) | exact RegCl.mk (by decide +kernel) | exact RegNo.mk (by kernel_rfl)) only [go_sem, seval]
  · simp (maxSteps := 3000000) (disch := first | exact trivial | assumption | omega | exact RegOk.mk (by decide +kernel) | exact RegCl.mk (by decide +kernel) | exact RegNo.mk (by kernel_rfl)) only [go_sem, seval]
    exact fun _ _ => trivial
  · intro x _; simp (maxSteps := 3000000) (disch := first | exact trivial | assumption | omega | exact RegOk.mk (by decide +kernel) | exact RegCl.mk (by decide +kernel) | exact RegNo.mk (by kernel_rfl)) only [go_sem, seval]
  rintro ⟨a, l⟩ hP
  have hn := hP.next
  obtain ⟨h2, h3, h4⟩ := hP
  simp only at h2 h3 h4 hn
  have ha : a < 18446744073709551616 := Nat.lt_of_lt_of_le h3 (by
    rw [show (18446744073709551616 : Nat) = 2 ^ 64 from rfl]
    exact Nat.pow_le_pow_right (by omega) (by omega))
  by_cases h : a < 128
  · have e : IntKind.u8.wrap (a : Int) = a := wrap_u8 (by omega)
    simp (maxSteps := 3000000) (disch := first | exact trivial | assumption | omega | exact RegOk.mk (by decide +kernel) | exact RegCl.mk (by decide +kernel) | exact RegNo.mk (by kernel_rfl)) only [go_sem, seval, e]
    refine ⟨.inl trivial, .inr trivial, by omega, by omega, ?_⟩
    rw [vput_lt h] at h4
    rw [bstr_of (l := vput v) rfl (by rw [← h4]; simp) fun i hi => (byte_app l a (by omega) hi).trans (by rw [h4])]
    simp (maxSteps := 3000000) (disch := first | exact trivial | assumption | omega | exact RegOk.mk (by decide +kernel) | exact RegCl.mk (by decide +kernel) | exact RegNo.mk (by kernel_rfl)) only [go_sem, seval]
  · have e1 := bits_and127 a ha
    have e : bits .u64 .or ((a % 128 : Nat) : Int) 128 = ((a % 128 + 128 : Nat) : Int) := by
      have h1 := bits_or (a % 128) 128 (by omega) (by omega)
      have h2 := or_add 7 1 (a % 128) (by omega)
      rw [h2] at h1
      exact h1
    have e2 : IntKind.u8.wrap ((a % 128 + 128 : Nat) : Int) = ((a % 128 + 128 : Nat) : Int) := wrap_u8 (by omega)
    have e3 : (a : Int) / 128 = ((a / 128 : Nat) : Int) := by omega
    simp (maxSteps := 3000000) (disch := first | exact trivial | assumption | omega | exact RegOk.mk (by decide +kernel) | exact RegCl.mk (by decide +kernel) | exact RegNo.mk (by kernel_rfl)) only [go_sem, seval, e1, e, e2, e3]
    refine ⟨.inl trivial, .inr trivial, by omega, by omega, (a / 128, l ++ [UInt8.ofNat (a % 128 + 128)]), hn h, by show a / 128 < a; omega, ?_, ?_⟩
    · simp (maxSteps := 3000000) (disch := first | exact trivial | assumption | omega | exact RegOk.mk (by decide +kernel) | exact RegCl.mk (by decide +kernel) | exact RegNo.mk (by kernel_rfl)) only [go_sem, seval]
    · simp (maxSteps := 3000000) (disch := first | exact trivial | assumption | omega | exact RegOk.mk (by decide +kernel) | exact RegCl.mk (by decide +kernel) | exact RegNo.mk (by kernel_rfl)) only [go_sem, seval]
      exact fun i hi => Le.of_eq (byte_app l _ (by omega) hi)
theorem vput_len (v : Nat) (hv : v < 18446744073709551616) : (vput v).length ≤ 10 := by
  have step : ∀ n v, v < 128 ^ (n + 1) → (vput v).length ≤ n + 1 := fun n => by
    induction n with
    | zero => intro v h; rw [vput_lt (by simpa using h)]; simp
    | succ n ih =>
      intro v h
      by_cases h1 : v < 128
      · rw [vput_lt h1]; simp
      · rw [vput_ge h1, List.length_cons]
        have := ih (v / 128) (by rw [Nat.div_lt_iff_lt_mul (by omega), ← Nat.pow_succ]; exact h)
        omega
  exact step 9 v (Nat.lt_trans hv (by decide))
end Go.Proofs.YtpobbfhdkbnpmaaDoor.Lv
