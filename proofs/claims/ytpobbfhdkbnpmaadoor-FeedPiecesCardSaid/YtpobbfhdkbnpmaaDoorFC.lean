/- The reference's numbers: CmpNat, Low. -/
import Derived.Test.YtpobbfhdkbnpmaaDoorFB
import Derived.Test.YtpobbfhdkbnpmaaDoorBy
set_option linter.unusedVariables false
set_option linter.unusedSimpArgs false
set_option maxRecDepth 100000
set_option maxHeartbeats 4000000
namespace Go.Proofs.YtpobbfhdkbnpmaaDoor.Lv
open Go Go.RowKit

theorem limbs_getD (n : Nat) : ∀ i, (limbs n).getD i 0 = n / 4294967296 ^ i % 4294967296 := by
  induction n using Nat.strongRecOn with
  | _ n ih =>
    intro i
    by_cases h : n = 0
    · subst h; rw [limbs_zero]; simp
    · rw [limbs_pos h]
      cases i with
      | zero => simp
      | succ i =>
        rw [List.getD_cons_succ, ih _ (by omega) i, Nat.div_div_eq_div_mul, Nat.pow_succ, Nat.mul_comm]
theorem bits_or32 (a b : Nat) (ha : a < 4294967296) (hb : b < 4294967296) : bits .u64 .or (a : Int) ((b : Int) * 4294967296) = (((a + b * 4294967296) : Nat) : Int) := by
  have h1 : b * 4294967296 < 18446744073709551616 := by omega
  rw [show (b : Int) * 4294967296 = ((b * 4294967296 : Nat) : Int) by omega, bits_or a _ (by omega) h1]
  have := or_add 32 b a ha
  rw [Nat.mul_comm] at this
  rw [this]
theorem drop_getD {l : List Nat} {k : Nat} (h : k < l.length) : l.drop k = l.getD k 0 :: l.drop (k + 1) := by
  rw [List.drop_eq_getElem_cons h, List.getD_eq_getElem?_getD, List.getElem?_eq_getElem h]; rfl
theorem val_split {l : List Nat} {k : Nat} (h : k < l.length) : val l = val (l.take k) + 4294967296 ^ k * l.getD k 0 + 4294967296 ^ k * 4294967296 * val (l.drop (k + 1)) := by
  conv => lhs; rw [← List.take_append_drop k l]
  rw [val_append, drop_getD h, List.length_take, Nat.min_eq_left (by omega), val, Nat.mul_add, ← Nat.mul_assoc, Nat.add_assoc]
theorem r1_Low {n : Nat} (hn : nb n < 1073741824) : C E 63 [nD n] (.int .u64 (n % 18446744073709551616 : Nat)) := by
  refine CG_intro Tryd.func63 rfl (by kernel_rfl) rfl (by kernel_rfl) (by kernel_rfl) rfl ?_
  have hv := val_limbs n
  have hlow := limbs_low n
  unfold nD
  unfold nb at hn
  generalize limbs n = l at *
  match l, hv, hlow, hn with
  | [], hv, _, _ =>
    simp (maxSteps := 3000000) (disch := first | exact trivial | assumption | omega | exact RegOk.mk (by decide +kernel) | exact RegCl.mk (by decide +kernel) | exact RegNo.mk (by kernel_rfl)) only [go_sem, seval, u32s]
    exact LeV.of_eq (by rw [← hv]; rfl)
  | [x], hv, hlow, _ =>
    obtain ⟨h1, _⟩ := hlow.cons
    simp (maxSteps := 3000000) (disch := first | exact trivial | assumption | omega | exact RegOk.mk (by decide +kernel) | exact RegCl.mk (by decide +kernel) | exact RegNo.mk (by kernel_rfl)) only [go_sem, seval, u32s]
    exact LeV.of_eq (by rw [← hv]; congr 2; simp only [val]; omega)
  | x :: y :: r, hv, hlow, hn =>
    obtain ⟨h1, h2⟩ := hlow.cons
    obtain ⟨h2, _⟩ := h2.cons
    have hd : decide (0 < ((r.length + 1 + 1 : Nat) : Int)) = true := by rw [decide_eq_true_eq]; omega
    have hd1 : decide (1 < ((r.length + 1 + 1 : Nat) : Int)) = true := by rw [decide_eq_true_eq]; omega
    simp (maxSteps := 3000000) (disch := first | exact trivial | assumption | omega | exact RegOk.mk (by decide +kernel) | exact RegCl.mk (by decide +kernel) | exact RegNo.mk (by kernel_rfl)) only [go_sem, seval, u32s, hd, hd1, bits_or32]
    exact LeV.of_eq (by rw [← hv]; congr 2; simp only [val]; omega)
def cmpI (a b : Nat) : Int := if a < b then -1 else if b < a then 1 else 0
theorem r1_Cmp {a b : Nat} (ha : nb a < 1073741824) (hb : nb b < 1073741824) : C E 62 [nD a, nD b] (.int .i64 (cmpI a b)) := by
  refine CG_intro Tryd.func62 rfl (by kernel_rfl) rfl (by kernel_rfl) (by kernel_rfl) rfl ?_
  unfold nb at ha hb
  by_cases hne : (limbs a).length = (limbs b).length
  case neg =>
    have hd : ((((limbs a).length : Nat) : Int) != (((limbs b).length : Nat) : Int)) = true := by rw [bne_iff_ne]; omega
    have key : ∀ x y : Nat, (limbs x).length < (limbs y).length → x < y := fun x y h => by
      have h1 := (nb_lt (n := x) (k := (limbs x).length)).1 (Nat.le_refl _)
      have h2 := mt (nb_lt (n := y) (k := (limbs x).length)).2 (by unfold nb; omega)
      omega
    by_cases hlt : (limbs a).length < (limbs b).length
    · have hd1 : decide ((((limbs a).length : Nat) : Int) < (((limbs b).length : Nat) : Int)) = true := by rw [decide_eq_true_eq]; omega
      have := key a b hlt
      simp (maxSteps := 3000000) (disch := first | exact trivial | assumption | omega | exact RegOk.mk (by decide +kernel) | exact RegCl.mk (by decide +kernel) | exact RegNo.mk (by kernel_rfl)) only [go_sem, seval, nD, u32s, hd, hd1]
      exact LeV.of_eq (by rw [cmpI, if_pos this])
    · have hd1 : decide ((((limbs a).length : Nat) : Int) < (((limbs b).length : Nat) : Int)) = false := by rw [decide_eq_false_iff_not]; omega
      have := key b a (by omega)
      simp (maxSteps := 3000000) (disch := first | exact trivial | assumption | omega | exact RegOk.mk (by decide +kernel) | exact RegCl.mk (by decide +kernel) | exact RegNo.mk (by kernel_rfl)) only [go_sem, seval, nD, u32s, hd, hd1]
      exact LeV.of_eq (by rw [cmpI, if_neg (by omega), if_pos this])
  have hd : ((((limbs a).length : Nat) : Int) != (((limbs b).length : Nat) : Int)) = false := by rw [bne_eq_false_iff_eq]; omega
  have va := val_limbs a
  have vb := val_limbs b
  have la := limbs_low a
  have lb := limbs_low b
  simp (maxSteps := 3000000) (disch := first | exact trivial | assumption | omega | exact RegOk.mk (by decide +kernel) | exact RegCl.mk (by decide +kernel) | exact RegNo.mk (by kernel_rfl)) only [go_sem, seval, nD, u32s, hd]
  generalize limbs a = l at *
  generalize limbs b = m at *
  refine AL.of (fun k : Nat => k ≤ l.length ∧ l.drop k = m.drop k) (fun k => k) (fun k => [(0, u32s l), (1, u32s m), (5, .int .i64 ((k : Int) - 1))]) (fun _ => []) l.length ⟨by omega, by rw [List.drop_of_length_le (by omega), List.drop_of_length_le (by omega)]⟩ ?_ ?_ ?_ ?_
  · simp (maxSteps := 3000000) (disch := first | exact trivial | assumption | omega | exact RegOk.mk (by decide +kernel) | exact RegCl.mk (by decide +kernel) | exact RegNo.mk (by kernel_rfl)) only [go_sem, seval, u32s]
  · simp (maxSteps := 3000000) (disch := first | exact trivial | assumption | omega | exact RegOk.mk (by decide +kernel) | exact RegCl.mk (by decide +kernel) | exact RegNo.mk (by kernel_rfl)) only [go_sem, seval, u32s]
  · intro x _; simp (maxSteps := 3000000) (disch := first | exact trivial | assumption | omega | exact RegOk.mk (by decide +kernel) | exact RegCl.mk (by decide +kernel) | exact RegNo.mk (by kernel_rfl)) only [go_sem, seval]
  rintro k ⟨h1, h2⟩
  cases k with
  | zero =>
    have : a = b := by rw [← va, ← vb]; simpa using congrArg val h2
    simp (maxSteps := 3000000) (disch := first | exact trivial | assumption | omega | exact RegOk.mk (by decide +kernel) | exact RegCl.mk (by decide +kernel) | exact RegNo.mk (by kernel_rfl)) only [go_sem, seval, u32s]
    exact LeV.of_eq (by rw [cmpI, if_neg (by omega), if_neg (by omega)])
  | succ k =>
    have hk : (((k + 1 : Nat) : Int) - 1).toNat = k := by omega
    have hge : decide (0 ≤ (((k + 1 : Nat) : Int) - 1)) = true := by rw [decide_eq_true_eq]; omega
    have lk := val_split (l := l) (k := k) (by omega)
    have mk := val_split (l := m) (k := k) (by omega)
    have e1 := val_lt (la.take k)
    have e2 := val_lt (lb.take k)
    rw [List.length_take, Nat.min_eq_left (by omega)] at e1 e2
    rw [h2] at lk
    have hl := la.getD k
    have hm := lb.getD k
    have key : ∀ (B X Y x y V : Nat), X < B → Y < B → x < y → X + B * x + B * 4294967296 * V < Y + B * y + B * 4294967296 * V := fun B X Y x y V h1 h2 h3 => by
      have : B * (x + 1) ≤ B * y := Nat.mul_le_mul_left B (by omega)
      rw [Nat.mul_add] at this
      omega
    by_cases hlt : l.getD k 0 < m.getD k 0
    · have hd1 : decide (((l.getD k 0 : Nat) : Int) < ((m.getD k 0 : Nat) : Int)) = true := by rw [decide_eq_true_eq]; omega
      have := key _ _ _ _ _ (val (m.drop (k + 1))) e1 e2 hlt
      rw [← lk, ← mk, va, vb] at this
      simp (maxSteps := 3000000) (disch := first | exact trivial | assumption | omega | exact RegOk.mk (by decide +kernel) | exact RegCl.mk (by decide +kernel) | exact RegNo.mk (by kernel_rfl)) only [go_sem, seval, u32s, hk, hge, hd1]
      exact LeV.of_eq (by rw [cmpI, if_pos this])
    have hd1 : decide (((l.getD k 0 : Nat) : Int) < ((m.getD k 0 : Nat) : Int)) = false := by rw [decide_eq_false_iff_not]; omega
    by_cases hgt : m.getD k 0 < l.getD k 0
    · have hd2 : decide (((m.getD k 0 : Nat) : Int) < ((l.getD k 0 : Nat) : Int)) = true := by rw [decide_eq_true_eq]; omega
      have := key _ _ _ _ _ (val (m.drop (k + 1))) e2 e1 hgt
      rw [← lk, ← mk, va, vb] at this
      simp (maxSteps := 3000000) (disch := first | exact trivial | assumption | omega | exact RegOk.mk (by decide +kernel) | exact RegCl.mk (by decide +kernel) | exact RegNo.mk (by kernel_rfl)) only [go_sem, seval, u32s, hk, hge, hd1, hd2]
      exact LeV.of_eq (by rw [cmpI, if_neg (by omega), if_pos this])
    have hd2 : decide (((m.getD k 0 : Nat) : Int) < ((l.getD k 0 : Nat) : Int)) = false := by rw [decide_eq_false_iff_not]; omega
    simp (maxSteps := 3000000) (disch := first | exact trivial | assumption | omega | exact RegOk.mk (by decide +kernel) | exact RegCl.mk (by decide +kernel) | exact RegNo.mk (by kernel_rfl)) only [go_sem, seval, u32s, hk, hge, hd1, hd2]
    refine ⟨k, ⟨by omega, ?_⟩, Nat.lt_succ_self k, ?_, ?_⟩
    · rw [drop_getD (by omega), drop_getD (l := m) (by omega), h2, show l.getD k 0 = m.getD k 0 by omega]
    · simp (maxSteps := 3000000) (disch := first | exact trivial | assumption | omega | exact RegOk.mk (by decide +kernel) | exact RegCl.mk (by decide +kernel) | exact RegNo.mk (by kernel_rfl)) only [go_sem, seval, u32s]
      exact LeV.of_eq (by congr 1; omega)
    · simp (maxSteps := 3000000) (disch := first | exact trivial | assumption | omega | exact RegOk.mk (by decide +kernel) | exact RegCl.mk (by decide +kernel) | exact RegNo.mk (by kernel_rfl)) only [go_sem, seval]
end Go.Proofs.YtpobbfhdkbnpmaaDoor.Lv
