/- The reference's numbers: Shl. -/
import Derived.Test.YtpobbfhdkbnpmaaDoorFC
set_option linter.unusedVariables false
set_option linter.unusedSimpArgs false
set_option maxRecDepth 100000
set_option maxHeartbeats 4000000
namespace Go.Proofs.YtpobbfhdkbnpmaaDoor.Lv
open Go Go.RowKit

theorem getD_set {g : List Nat} {i : Nat} (h : i < g.length) (y j : Nat) : (g.set i y).getD j 0 = if j = i then y else g.getD j 0 := by
  rw [List.getD_eq_getElem?_getD, List.getD_eq_getElem?_getD, List.getElem?_set]
  by_cases e : i = j
  · subst e; simp [h]
  · rw [if_neg e, if_neg (Ne.symm e)]
theorem val_set {g : List Nat} {i : Nat} (h : i < g.length) (y : Nat) : val (g.set i y) + 4294967296 ^ i * g.getD i 0 = val g + 4294967296 ^ i * y := by
  induction g generalizing i with
  | nil => simp at h
  | cons x g ih =>
    cases i with
    | zero => simp [val]; omega
    | succ i =>
      have := ih (i := i) (by simpa using h)
      simp only [List.set_cons_succ, val, List.getD_cons_succ, Nat.pow_succ]
      rw [Nat.mul_comm (4294967296 ^ i), Nat.mul_assoc, Nat.mul_assoc]
      omega
theorem lows.set {g : List Nat} (h : lows g) (i : Nat) {y : Nat} (hy : y < 4294967296) : lows (g.set i y) := fun x hx => by
  rcases List.mem_or_eq_of_mem_set hx with h' | rfl
  · exact h x h'
  · exact hy
theorem getD_rep (n j : Nat) : (List.replicate n 0).getD j 0 = 0 := by
  rw [List.getD_eq_getElem?_getD, List.getElem?_replicate]; split <;> rfl
theorem bits_or_u32 (a b : Nat) (ha : a < 4294967296) (hb : b < 4294967296) : bits .u32 .or (a : Int) (b : Int) = ((a ||| b : Nat) : Int) := by
  have e : ∀ v : Nat, v < 4294967296 → (BitVec.ofInt IntKind.u32.bits (v : Int)).toNat = v := fun v hv => by
    show (BitVec.ofInt 32 (v : Int)).toNat = v
    simp; omega
  have hlt : a ||| b < 4294967296 := Nat.or_lt_two_pow (n := 32) ha hb
  unfold bits
  simp only [BitVec.toNat_or, e a ha, e b hb]
  rw [wrap_u32', Int.emod_eq_of_lt (by omega) (by omega)]
theorem bits_or_z (b : Nat) (hb : b < 4294967296) : bits .u32 .or 0 (b : Int) = (b : Int) := by
  have := bits_or_u32 0 b (by omega) hb
  rwa [Nat.zero_or] at this
theorem shl_step (X s G : Nat) (hX : X < 4294967296) (hs : s < 32) (hG : G < 2 ^ s) : G ||| X * 2 ^ s % 4294967296 = G + X * 2 ^ s % 4294967296 ∧ G + X * 2 ^ s % 4294967296 < 4294967296 ∧ X * 2 ^ s < 9223372036854775808 ∧ X * 2 ^ s / 4294967296 < 2 ^ s := by
  have e0 : 2 ^ s * 2 ^ (32 - s) = 4294967296 := by rw [← Nat.pow_add, show s + (32 - s) = 32 by omega]
  have e1 : X * 2 ^ s % 4294967296 = 2 ^ s * (X % 2 ^ (32 - s)) := by rw [← e0, Nat.mul_comm X, Nat.mul_mod_mul_left]
  have e2 : X % 2 ^ (32 - s) < 2 ^ (32 - s) := Nat.mod_lt _ (Nat.two_pow_pos _)
  have e3 : 2 ^ s ≤ 2 ^ 31 := Nat.pow_le_pow_right (by omega) (by omega)
  refine ⟨?_, ?_, ?_, ?_⟩
  · rw [e1, or_add s _ _ hG]
  · rw [e1]
    have : 2 ^ s * (X % 2 ^ (32 - s) + 1) ≤ 2 ^ s * 2 ^ (32 - s) := Nat.mul_le_mul_left _ e2
    rw [e0, Nat.mul_add] at this
    omega
  · have : X * 2 ^ s ≤ 4294967295 * 2 ^ 31 := Nat.mul_le_mul (by omega) e3
    omega
  · rw [Nat.div_lt_iff_lt_mul (by omega), Nat.mul_comm]
    exact Nat.mul_lt_mul_of_pos_left hX (Nat.two_pow_pos s)
theorem r1_Shl {a n : Nat} (ha : nb a < 1073741824) (hn : n < 1073741824) : C E 59 [nD a, .int .i64 n] (nD (a * 2 ^ n)) := by
  have va := val_limbs a
  have la := limbs_low a
  unfold nb at ha
  rw [show nD a = u32s (limbs a) from rfl]
  generalize hl : limbs a = l at *
  refine CG_intro Tryd.func59 rfl (by kernel_rfl) rfl (by kernel_rfl) (by kernel_rfl) rfl ?_
  obtain ⟨q, hq⟩ : ∃ q, q = n / 32 := ⟨_, rfl⟩
  obtain ⟨s, hs⟩ : ∃ s, s = n % 32 := ⟨_, rfl⟩
  have hqd : (n : Int).tdiv 32 = (q : Int) := by rw [Int.tdiv_eq_ediv_of_nonneg (by omega)]; omega
  have hsd : (n : Int).tmod 32 = (s : Int) := by rw [Int.tmod_eq_emod_of_nonneg (by omega)]; omega
  obtain ⟨N, hN, hN2⟩ : ∃ N : Nat, (l.length : Int) + (q : Int) + 1 = (N : Int) ∧ N = l.length + q + 1 := ⟨l.length + q + 1, by omega, rfl⟩
  simp (maxSteps := 3000000) (disch := first | exact trivial | assumption | omega | exact RegOk.mk (by decide +kernel) | exact RegCl.mk (by decide +kernel) | exact RegNo.mk (by kernel_rfl)) only [go_sem, seval, u32s, hqd, hsd, hN]
  refine ⟨by omega, by omega, by omega, ?_⟩
  refine AL.of (fun p : Nat × List Nat => p.1 ≤ l.length ∧ lows p.2 ∧ p.2.length = N ∧ val p.2 = val (l.take p.1) * 2 ^ n ∧ (∀ j, p.1 + q < j → p.2.getD j 0 = 0) ∧ p.2.getD (p.1 + q) 0 < 2 ^ s) (fun p => l.length - p.1)
    (fun p => [(0, u32s l), (1, .int .i64 n), (5, .sl 0 0 0 N), (6, .int .i64 p.1)]) (fun p => [(0, .row false 0 false 1 N fun j => .int .u32 ((p.2.getD j 0 : Nat) : Int))]) (0, List.replicate N 0) ?_ ?_ ?_ ?_ ?_
  · refine ⟨by simp, fun x hx => ?_, by simp, ?_, fun j _ => getD_rep _ _, by rw [getD_rep]; exact Nat.two_pow_pos s⟩
    · rw [List.eq_of_mem_replicate hx]; omega
    · rw [val_zero_iff.2 fun x hx => List.eq_of_mem_replicate hx]; simp [val]
  · simp (maxSteps := 3000000) (disch := first | exact trivial | assumption | omega | exact RegOk.mk (by decide +kernel) | exact RegCl.mk (by decide +kernel) | exact RegNo.mk (by kernel_rfl)) only [go_sem, seval, u32s]
  · simp (maxSteps := 3000000) (disch := first | exact trivial | assumption | omega | exact RegOk.mk (by decide +kernel) | exact RegCl.mk (by decide +kernel) | exact RegNo.mk (by kernel_rfl)) only [go_sem, seval, u32s, getD_rep]
    exact fun _ _ => trivial
  · intro x _; simp (maxSteps := 3000000) (disch := first | exact trivial | assumption | omega | exact RegOk.mk (by decide +kernel) | exact RegCl.mk (by decide +kernel) | exact RegNo.mk (by kernel_rfl)) only [go_sem, seval]
  rintro ⟨i, g⟩ ⟨p1, p2, p3, p4, p5, p6⟩
  simp only at p1 p2 p3 p4 p5 p6
  by_cases hi : i < l.length
  case neg =>
    have hd : decide ((i : Int) < (l.length : Int)) = false := by rw [decide_eq_false_iff_not]; omega
    simp (maxSteps := 3000000) (disch := first | exact trivial | assumption | omega | exact RegOk.mk (by decide +kernel) | exact RegCl.mk (by decide +kernel) | exact RegNo.mk (by kernel_rfl)) only [go_sem, seval, u32s, hd]
    rw [List.take_of_length_le (by omega), va] at p4
    refine callC (r1_trim p2 (by omega)) ?_ rfl ?_
    · simp (maxSteps := 3000000) (disch := first | exact trivial | assumption | omega | exact RegOk.mk (by decide +kernel) | exact RegCl.mk (by decide +kernel) | exact RegNo.mk (by kernel_rfl)) only [go_sem, seval, u32s, p3]
    rw [p4]
    simp (maxSteps := 3000000) (disch := first | exact trivial | assumption | omega | exact RegOk.mk (by decide +kernel) | exact RegCl.mk (by decide +kernel) | exact RegNo.mk (by kernel_rfl)) only [go_sem, seval]
  have hd : decide ((i : Int) < (l.length : Int)) = true := by rw [decide_eq_true_eq]; omega
  have hX := la.getD i
  generalize hXd : l.getD i 0 = X at *
  have hs32 : s < 32 := by omega
  have hiq : ((i : Int) + (q : Int)).toNat = i + q := by omega
  have hiq1 : ((i : Int) + (q : Int) + 1).toNat = i + q + 1 := by omega
  obtain ⟨v1, v2, v3, v4⟩ := shl_step X s _ hX hs32 p6
  have hv : (X : Int) * ((2 ^ s : Nat) : Int) = ((X * 2 ^ s : Nat) : Int) := (Int.natCast_mul _ _).symm
  have hG : ((g.getD (i + q + 1) 0 : Nat) : Int) = 0 := by rw [p5 _ (by omega)]; rfl
  have hne : (i + q + 1 = i + q) = False := eq_false (by omega)
  have e3 : 2 ^ s ≤ 2 ^ 31 := Nat.pow_le_pow_right (by omega) (by omega)
  have hvn : val (l.take (i + 1)) = val (l.take i) + 4294967296 ^ i * X := by rw [take_succ_val, hXd]
  have hpow : 2 ^ n = 4294967296 ^ q * 2 ^ s := by
    rw [show (4294967296 : Nat) = 2 ^ 32 from rfl, ← Nat.pow_mul, ← Nat.pow_add]; congr 1; omega
  have vs1 := val_set (g := g) (i := i + q) (by omega) (g.getD (i + q) 0 + X * 2 ^ s % 4294967296)
  have vs2 := val_set (g := g.set (i + q) (g.getD (i + q) 0 + X * 2 ^ s % 4294967296)) (i := i + q + 1) (by rw [List.length_set]; omega) (X * 2 ^ s / 4294967296)
  rw [getD_set (g := g) (i := i + q) (by omega) _ (i + q + 1), if_neg (show ¬ i + q + 1 = i + q by omega), p5 (i + q + 1) (by omega), Nat.mul_zero, Nat.add_zero] at vs2
  have hGd : g.getD (i + q) 0 < 4294967296 := p2.getD _
  generalize hvd : X * 2 ^ s = v at *
  have hm1 : (v : Int) % 4294967296 = ((v % 4294967296 : Nat) : Int) := (Int.natCast_emod _ _).symm
  have hm2 : (v : Int) / 4294967296 = ((v / 4294967296 : Nat) : Int) := (Int.natCast_ediv _ _).symm
  simp (maxSteps := 3000000) (disch := first | exact trivial | assumption | omega | exact RegOk.mk (by decide +kernel) | exact RegCl.mk (by decide +kernel) | exact RegNo.mk (by kernel_rfl)) only [go_sem, seval, u32s, hqd, hsd, hd, hXd, hiq, hiq1, hv, bits_low, hm1, hm2, hG, hne, bits_or_u32, bits_or_z, v1]
  refine ⟨(i + 1, (g.set (i + q) (g.getD (i + q) 0 + v % 4294967296)).set (i + q + 1) (v / 4294967296)), ⟨by show i + 1 ≤ l.length; omega, (p2.set _ v2).set _ (by omega), by simp [p3], ?_, ?_, ?_⟩, by show l.length - (i + 1) < l.length - i; omega, ?_, ?_⟩
  · show val _ = val (l.take (i + 1)) * 2 ^ n
    rw [vs2, hvn, Nat.add_mul, ← p4, hpow]
    have e1 : 4294967296 ^ i * X * (4294967296 ^ q * 2 ^ s) = 4294967296 ^ (i + q) * v := by
      rw [← hvd, Nat.pow_add]; simp only [Nat.mul_assoc, Nat.mul_left_comm]
    have e2 : 4294967296 ^ (i + q) * v = 4294967296 ^ (i + q) * (v % 4294967296) + 4294967296 ^ (i + q + 1) * (v / 4294967296) := by
      rw [Nat.pow_succ, Nat.mul_assoc, ← Nat.mul_add, Nat.mod_add_div]
    rw [e1, e2]
    rw [Nat.mul_add] at vs1
    generalize 4294967296 ^ (i + q) * (v % 4294967296) = Z1 at *
    generalize 4294967296 ^ (i + q) * g.getD (i + q) 0 = Z2 at *
    generalize 4294967296 ^ (i + q + 1) * (v / 4294967296) = Z3 at *
    clear v1 v2 v3 v4 e1 e2
    omega
  · intro j hj
    rw [getD_set (by rw [List.length_set]; omega), if_neg (by simp only at hj; omega), getD_set (by omega), if_neg (by simp only at hj; omega)]
    exact p5 j (by simp only at hj; omega)
  · show List.getD _ (i + 1 + q) 0 < 2 ^ s
    rw [getD_set (by rw [List.length_set]; omega), if_pos (by omega)]
    exact v4
  · simp (maxSteps := 3000000) (disch := first | exact trivial | assumption | omega | exact RegOk.mk (by decide +kernel) | exact RegCl.mk (by decide +kernel) | exact RegNo.mk (by kernel_rfl)) only [go_sem, seval, u32s]
    exact LeV.of_eq (by congr 1)
  · simp (maxSteps := 3000000) (disch := first | exact trivial | assumption | omega | exact RegOk.mk (by decide +kernel) | exact RegCl.mk (by decide +kernel) | exact RegNo.mk (by kernel_rfl)) only [go_sem, seval, u32s]
    refine fun j hj => Le.of_eq ?_
    rw [getD_set (by rw [List.length_set]; omega), getD_set (by omega)]
    split
    · rfl
    · split <;> rfl
end Go.Proofs.YtpobbfhdkbnpmaaDoor.Lv
