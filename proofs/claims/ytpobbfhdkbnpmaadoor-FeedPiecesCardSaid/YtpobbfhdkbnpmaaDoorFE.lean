/- The reference's numbers: MulNat. -/
import Derived.Test.YtpobbfhdkbnpmaaDoorFD
set_option linter.unusedVariables false
set_option linter.unusedSimpArgs false
set_option maxRecDepth 100000
set_option maxHeartbeats 4000000
namespace Go.Proofs.YtpobbfhdkbnpmaaDoor.Lv
open Go Go.RowKit

theorem mul_bound {X Y c g : Nat} (hX : X < 4294967296) (hY : Y < 4294967296) (hc : c < 4294967296) (hg : g < 4294967296) : X * Y ≤ 18446744065119617025 ∧ c + (X * Y + g) < 18446744073709551616 ∧ (c + (X * Y + g)) / 4294967296 < 4294967296 := by
  have : X * Y ≤ 4294967295 * 4294967295 := Nat.mul_le_mul (by omega) (by omega)
  omega
theorem mul_step {g g0 b : List Nat} {i k X c : Nat} (hk : i + k < g.length) (h : val g + 4294967296 ^ (i + k) * c = val g0 + 4294967296 ^ i * X * val (b.take k)) {t : Nat} (ht : t = c + (X * b.getD k 0 + g.getD (i + k) 0)) :
    val (g.set (i + k) (t % 4294967296)) + 4294967296 ^ (i + (k + 1)) * (t / 4294967296) = val g0 + 4294967296 ^ i * X * val (b.take (k + 1)) := by
  have e1 := val_set hk (t % 4294967296)
  have e2 : 4294967296 ^ (i + (k + 1)) * (t / 4294967296) + 4294967296 ^ (i + k) * (t % 4294967296) = 4294967296 ^ (i + k) * t := by
    rw [← Nat.add_assoc, Nat.pow_succ, Nat.mul_assoc, ← Nat.mul_add, Nat.div_add_mod]
  have e3 : 4294967296 ^ (i + k) * t = 4294967296 ^ (i + k) * c + 4294967296 ^ (i + k) * (X * b.getD k 0) + 4294967296 ^ (i + k) * g.getD (i + k) 0 := by
    rw [ht, Nat.mul_add, Nat.mul_add, Nat.add_assoc]
  have e4 : 4294967296 ^ i * X * (4294967296 ^ k * b.getD k 0) = 4294967296 ^ (i + k) * (X * b.getD k 0) := by
    rw [Nat.pow_add]; simp only [Nat.mul_assoc, Nat.mul_left_comm]
  rw [take_succ_val, Nat.mul_add, e4]
  generalize 4294967296 ^ (i + (k + 1)) * (t / 4294967296) = Z1 at *
  generalize 4294967296 ^ (i + k) * (t % 4294967296) = Z2 at *
  generalize 4294967296 ^ (i + k) * t = Z3 at *
  generalize 4294967296 ^ (i + k) * (X * b.getD k 0) = Z4 at *
  generalize 4294967296 ^ (i + k) * g.getD (i + k) 0 = Z5 at *
  generalize 4294967296 ^ (i + k) * c = Z6 at *
  generalize 4294967296 ^ i * X * val (b.take k) = Z7 at *
  omega
theorem r1_MulL {a b : List Nat} (la : lows a) (lb : lows b) (ha : a.length < 1073741824) (hb : b.length < 1073741824) : C E 61 [u32s a, u32s b] (nD (val a * val b)) := by
  refine CG_intro Tryd.func61 rfl (by kernel_rfl) rfl (by kernel_rfl) (by kernel_rfl) rfl ?_
  obtain ⟨N, hN, hN2⟩ : ∃ N : Nat, (a.length : Int) + (b.length : Int) + 1 = (N : Int) ∧ N = a.length + b.length + 1 := ⟨a.length + b.length + 1, by omega, rfl⟩
  simp (maxSteps := 3000000) (disch := first | exact trivial | assumption | omega | exact RegOk.mk (by decide +kernel) | exact RegCl.mk (by decide +kernel) | exact RegNo.mk (by kernel_rfl)) only [go_sem, seval, u32s, hN]
  refine ⟨by omega, by omega, by omega, ?_⟩
  refine AL.of (fun p : Nat × List Nat => p.1 ≤ a.length ∧ lows p.2 ∧ p.2.length = N ∧ val p.2 = val (a.take p.1) * val b ∧ ∀ j, p.1 + b.length ≤ j → p.2.getD j 0 = 0) (fun p => a.length - p.1)
    (fun p => [(0, u32s a), (1, u32s b), (5, .sl 0 0 0 N), (6, .int .i64 p.1)]) (fun p => [(0, .row false 0 false 1 N fun j => .int .u32 ((p.2.getD j 0 : Nat) : Int))]) (0, List.replicate N 0) ?_ ?_ ?_ ?_ ?_
  · refine ⟨by simp, fun x hx => ?_, by simp, ?_, fun j _ => getD_rep _ _⟩
    · rw [List.eq_of_mem_replicate hx]; omega
    · rw [val_zero_iff.2 fun x hx => List.eq_of_mem_replicate hx]; simp [val]
  · simp (maxSteps := 3000000) (disch := first | exact trivial | assumption | omega | exact RegOk.mk (by decide +kernel) | exact RegCl.mk (by decide +kernel) | exact RegNo.mk (by kernel_rfl)) only [go_sem, seval, u32s]
  · simp (maxSteps := 3000000) (disch := first | exact trivial | assumption | omega | exact RegOk.mk (by decide +kernel) | exact RegCl.mk (by decide +kernel) | exact RegNo.mk (by kernel_rfl)) only [go_sem, seval, u32s, getD_rep]
    exact fun _ _ => trivial
  · intro x _; simp (maxSteps := 3000000) (disch := first | exact trivial | assumption | omega | exact RegOk.mk (by decide +kernel) | exact RegCl.mk (by decide +kernel) | exact RegNo.mk (by kernel_rfl)) only [go_sem, seval]
  rintro ⟨i, g0⟩ ⟨p1, p2, p3, p4, p5⟩
  simp only at p1 p2 p3 p4 p5
  by_cases hi : i < a.length
  case neg =>
    have hd : decide ((i : Int) < (a.length : Int)) = false := by rw [decide_eq_false_iff_not]; omega
    simp (maxSteps := 3000000) (disch := first | exact trivial | assumption | omega | exact RegOk.mk (by decide +kernel) | exact RegCl.mk (by decide +kernel) | exact RegNo.mk (by kernel_rfl)) only [go_sem, seval, u32s, hd]
    rw [List.take_of_length_le (by omega)] at p4
    refine callC (r1_trim p2 (by omega)) ?_ rfl ?_
    · simp (maxSteps := 3000000) (disch := first | exact trivial | assumption | omega | exact RegOk.mk (by decide +kernel) | exact RegCl.mk (by decide +kernel) | exact RegNo.mk (by kernel_rfl)) only [go_sem, seval, u32s, p3]
    rw [p4]
    simp (maxSteps := 3000000) (disch := first | exact trivial | assumption | omega | exact RegOk.mk (by decide +kernel) | exact RegCl.mk (by decide +kernel) | exact RegNo.mk (by kernel_rfl)) only [go_sem, seval]
  have hd : decide ((i : Int) < (a.length : Int)) = true := by rw [decide_eq_true_eq]; omega
  have hX := la.getD i
  generalize hXd : a.getD i 0 = X at *
  simp (maxSteps := 3000000) (disch := first | exact trivial | assumption | omega | exact RegOk.mk (by decide +kernel) | exact RegCl.mk (by decide +kernel) | exact RegNo.mk (by kernel_rfl)) only [go_sem, seval, u32s, hd]
  refine AL.of (fun p : Nat × Nat × List Nat => p.1 ≤ b.length ∧ p.2.1 < 4294967296 ∧ lows p.2.2 ∧ p.2.2.length = N ∧ val p.2.2 + 4294967296 ^ (i + p.1) * p.2.1 = val g0 + 4294967296 ^ i * X * val (b.take p.1) ∧ ∀ j, i + b.length ≤ j → p.2.2.getD j 0 = 0) (fun p => b.length - p.1)
    (fun p => [(0, u32s a), (1, u32s b), (5, .sl 0 0 0 N), (6, .int .i64 i), (7, .int .u64 p.2.1), (8, .int .i64 p.1)]) (fun p => [(0, .row false 0 false 1 N fun j => .int .u32 ((p.2.2.getD j 0 : Nat) : Int))]) (0, 0, g0) ⟨by simp, by simp, p2, p3, by simp [val], p5⟩ ?_ ?_ ?_ ?_
  · simp (maxSteps := 3000000) (disch := first | exact trivial | assumption | omega | exact RegOk.mk (by decide +kernel) | exact RegCl.mk (by decide +kernel) | exact RegNo.mk (by kernel_rfl)) only [go_sem, seval, u32s]
  · simp (maxSteps := 3000000) (disch := first | exact trivial | assumption | omega | exact RegOk.mk (by decide +kernel) | exact RegCl.mk (by decide +kernel) | exact RegNo.mk (by kernel_rfl)) only [go_sem, seval, u32s]
    exact fun _ _ => trivial
  · intro x _; simp (maxSteps := 3000000) (disch := first | exact trivial | assumption | omega | exact RegOk.mk (by decide +kernel) | exact RegCl.mk (by decide +kernel) | exact RegNo.mk (by kernel_rfl)) only [go_sem, seval]
  rintro ⟨k, c, g⟩ ⟨q1, q2, q3, q4, q5, q6⟩
  simp only at q1 q2 q3 q4 q5 q6
  by_cases hk : k < b.length
  case pos =>
    have hd2 : decide ((k : Int) < (b.length : Int)) = true := by rw [decide_eq_true_eq]; omega
    have hik : ((i : Int) + (k : Int)).toNat = i + k := by omega
    have hY := lb.getD k
    have hG := q3.getD (i + k)
    obtain ⟨m1, m2, m3⟩ := mul_bound hX hY q2 hG
    have st := mul_step (X := X) (by omega : i + k < g.length) q5 rfl
    have hm : (X : Int) * ((b.getD k 0 : Nat) : Int) = ((X * b.getD k 0 : Nat) : Int) := (Int.natCast_mul _ _).symm
    have hXd' : ((a.getD i 0 : Nat) : Int) = (X : Int) := by rw [hXd]
    generalize hxy : X * b.getD k 0 = xy at *
    simp (maxSteps := 3000000) (disch := first | exact trivial | assumption | omega | exact RegOk.mk (by decide +kernel) | exact RegCl.mk (by decide +kernel) | exact RegNo.mk (by kernel_rfl)) only [go_sem, seval, u32s, hd2, hXd', hik, hm, bits_low]
    refine ⟨(k + 1, (c + (xy + g.getD (i + k) 0)) / 4294967296, g.set (i + k) ((c + (xy + g.getD (i + k) 0)) % 4294967296)), ⟨by show k + 1 ≤ b.length; omega, m3, q3.set _ (by omega), by simp [q4], st, ?_⟩, by show b.length - (k + 1) < b.length - k; omega, ?_, ?_⟩
    · intro j hj
      rw [getD_set (by omega), if_neg (by omega)]
      exact q6 j hj
    · simp (maxSteps := 3000000) (disch := first | exact trivial | assumption | omega | exact RegOk.mk (by decide +kernel) | exact RegCl.mk (by decide +kernel) | exact RegNo.mk (by kernel_rfl)) only [go_sem, seval, u32s]
      exact ⟨LeV.of_eq (by congr 1), LeV.of_eq (by congr 1)⟩
    · simp (maxSteps := 3000000) (disch := first | exact trivial | assumption | omega | exact RegOk.mk (by decide +kernel) | exact RegCl.mk (by decide +kernel) | exact RegNo.mk (by kernel_rfl)) only [go_sem, seval, u32s]
      refine fun j hj => Le.of_eq ?_
      rw [getD_set (by omega)]
      split
      · congr 1
      · rfl
  case neg =>
    have hd2 : decide ((k : Int) < (b.length : Int)) = false := by rw [decide_eq_false_iff_not]; omega
    obtain rfl : k = b.length := by omega
    have hik : ((i : Int) + (b.length : Int)).toNat = i + b.length := by omega
    simp (maxSteps := 3000000) (disch := first | exact trivial | assumption | omega | exact RegOk.mk (by decide +kernel) | exact RegCl.mk (by decide +kernel) | exact RegNo.mk (by kernel_rfl)) only [go_sem, seval, u32s, hd2, hik]
    have vs := val_set (g := g) (i := i + b.length) (by omega) c
    rw [q6 _ (Nat.le_refl _), Nat.mul_zero, Nat.add_zero, q5, List.take_of_length_le (Nat.le_refl _), p4] at vs
    refine ⟨(i + 1, g.set (i + b.length) c), ⟨by show i + 1 ≤ a.length; omega, q3.set _ q2, by simp [q4], ?_, ?_⟩, by show a.length - (i + 1) < a.length - i; omega, ?_, ?_⟩
    · show val _ = val (a.take (i + 1)) * val b
      rw [vs, take_succ_val, hXd, Nat.add_mul]
    · intro j hj
      rw [getD_set (by omega), if_neg (by simp only at hj; omega)]
      exact q6 j (by simp only at hj; omega)
    · simp (maxSteps := 3000000) (disch := first | exact trivial | assumption | omega | exact RegOk.mk (by decide +kernel) | exact RegCl.mk (by decide +kernel) | exact RegNo.mk (by kernel_rfl)) only [go_sem, seval, u32s]
      exact LeV.of_eq (by congr 1)
    · simp (maxSteps := 3000000) (disch := first | exact trivial | assumption | omega | exact RegOk.mk (by decide +kernel) | exact RegCl.mk (by decide +kernel) | exact RegNo.mk (by kernel_rfl)) only [go_sem, seval, u32s]
      refine fun j hj => Le.of_eq ?_
      rw [getD_set (by omega)]
      split <;> rfl
theorem r1_Mul {a b : Nat} (ha : nb a < 1073741824) (hb : nb b < 1073741824) : C E 61 [nD a, nD b] (nD (a * b)) := by
  have := r1_MulL (limbs_low a) (limbs_low b) ha hb
  rwa [val_limbs, val_limbs] at this
end Go.Proofs.YtpobbfhdkbnpmaaDoor.Lv
