/- The reference's numbers: NatOf, AddNat. -/
import Derived.Test.YtpobbfhdkbnpmaaDoorFA
set_option linter.unusedVariables false
set_option linter.unusedSimpArgs false
set_option maxRecDepth 100000
set_option maxHeartbeats 4000000
namespace Go.Proofs.YtpobbfhdkbnpmaaDoor.Lv
open Go Go.RowKit

theorem bits_low (t : Int) (h0 : 0 ≤ t) (h : t < 18446744073709551616) : bits .u64 .and t 4294967295 = t % 4294967296 := by
  obtain ⟨n, rfl⟩ := Int.eq_ofNat_of_zero_le h0
  have e : ∀ v : Nat, v < 18446744073709551616 → (BitVec.ofInt IntKind.u64.bits (v : Int)).toNat = v := fun v hv => by
    show (BitVec.ofInt 64 (v : Int)).toNat = v
    simp; omega
  have e2 : (BitVec.ofInt IntKind.u64.bits (4294967295 : Int)).toNat = 2 ^ 32 - 1 := by decide
  unfold bits
  simp only [BitVec.toNat_and, e n (by omega), e2, Nat.and_two_pow_sub_one_eq_mod]
  rw [wrap_u64 (by omega)]
  omega
theorem take_succ_val {l : List Nat} {k : Nat} : val (l.take (k + 1)) = val (l.take k) + 4294967296 ^ k * l.getD k 0 := by
  by_cases hk : k < l.length
  · have : l.take (k + 1) = l.take k ++ [l.getD k 0] := by
      rw [List.take_add_one, List.getD_eq_getElem?_getD, List.getElem?_eq_getElem hk]
      rfl
    rw [this, val_append, List.length_take, Nat.min_eq_left (by omega)]
    simp [val]
  · rw [List.take_of_length_le (by omega), List.take_of_length_le (by omega), List.getD_eq_getElem?_getD, List.getElem?_eq_none (by omega)]
    simp
theorem getD_snoc (g : List Nat) (d j : Nat) : (g ++ [d]).getD j 0 = if j = g.length then d else g.getD j 0 := by
  rw [List.getD_eq_getElem?_getD, List.getD_eq_getElem?_getD]
  by_cases h : j < g.length
  · rw [List.getElem?_append_left h, if_neg (by omega)]
  · rw [List.getElem?_append_right (by omega)]
    by_cases e : j = g.length
    · subst e; simp
    · rw [if_neg e, List.getElem?_eq_none (by simp; omega), List.getElem?_eq_none (by omega)]
theorem getD_out {l : List Nat} {i : Nat} (h : l.length ≤ i) : l.getD i 0 = 0 := by
  rw [List.getD_eq_getElem?_getD, List.getElem?_eq_none h]; rfl
theorem lows.snoc {g : List Nat} (h : lows g) {d : Nat} (hd : d < 4294967296) : lows (g ++ [d]) := fun x hx => by
  rcases List.mem_append.1 hx with hx | hx
  · exact h x hx
  · simp at hx; omega
theorem val_lt : ∀ {l : List Nat}, lows l → val l < 4294967296 ^ l.length
  | [], _ => by simp [val]
  | x :: l, h => by
    obtain ⟨h1, h2⟩ := h.cons
    have := val_lt h2
    simp only [val, List.length_cons, Nat.pow_succ]
    omega
theorem add_step {x y g : List Nat} {c : Nat} (p1 : lows g) (p3 : c ≤ 1) (p4 : val g + 4294967296 ^ g.length * c = val (x.take g.length) + val (y.take g.length)) (bX : x.getD g.length 0 < 4294967296) (bY : y.getD g.length 0 < 4294967296) {t : Nat} (ht : t = c + x.getD g.length 0 + y.getD g.length 0) :
    lows (g ++ [t % 4294967296]) ∧ t / 4294967296 ≤ 1 ∧
      val (g ++ [t % 4294967296]) + 4294967296 ^ (g ++ [t % 4294967296]).length * (t / 4294967296) =
        val (x.take (g ++ [t % 4294967296]).length) + val (y.take (g ++ [t % 4294967296]).length) := by
  have tx : val (x.take (g.length + 1)) = val (x.take g.length) + 4294967296 ^ g.length * x.getD g.length 0 := take_succ_val
  have ty : val (y.take (g.length + 1)) = val (y.take g.length) + 4294967296 ^ g.length * y.getD g.length 0 := take_succ_val
  generalize hX : x.getD g.length 0 = X at *
  generalize hY : y.getD g.length 0 = Y at *
  refine ⟨p1.snoc (by omega), by omega, ?_⟩
  rw [List.length_append, List.length_singleton, tx, ty, val_append, Nat.pow_succ]
  simp only [val]
  have e := Nat.div_add_mod t 4294967296
  generalize 4294967296 ^ g.length = B at *
  have e2 : B * (t % 4294967296 + 4294967296 * 0) + B * 4294967296 * (t / 4294967296) = B * t := by
    rw [Nat.mul_zero, Nat.add_zero, Nat.mul_assoc, ← Nat.mul_add, Nat.add_comm, e]
  rw [Nat.add_assoc, e2, ht, Nat.mul_add, Nat.mul_add]
  omega
theorem LesV_rows {ag : Bool} {sz n m : Nat} {f g : Nat → D} (e : n = m) (h : ∀ i, i < n → f i = g i) : LesV [.ro ag sz n f] [.ro ag sz m g] := LesV.cons (LeV.ro e fun i hi => Le.of_eq (h i hi)) LesV.nil
theorem r1_NatOf {v : Nat} (h : v < 18446744073709551616) : C E 58 [.int .u64 v] (nD v) := by
  refine CG_intro Tryd.func58 rfl (by kernel_rfl) rfl (by kernel_rfl) (by kernel_rfl) rfl ?_
  have hb := bits_low v (by omega) (by omega)
  simp (maxSteps := 3000000) (disch := first | exact trivial | assumption | omega | exact RegOk.mk (by decide +kernel) | exact RegCl.mk (by decide +kernel) | exact RegNo.mk (by kernel_rfl)) only [go_sem, seval, hb]
  have hc := r1_trim (l := [v % 4294967296, v / 4294967296]) (by intro x hx; simp at hx; omega) (by simp)
  rw [show val [v % 4294967296, v / 4294967296] = v by simp only [val]; omega] at hc
  refine callC hc ?_ rfl ?_
  · simp (maxSteps := 3000000) (disch := first | exact trivial | assumption | omega | exact RegOk.mk (by decide +kernel) | exact RegCl.mk (by decide +kernel) | exact RegNo.mk (by kernel_rfl)) only [go_sem, seval, u32s]
    refine LesV_rows rfl fun i hi => ?_
    rcases i with _ | _ | i
    · show D.int .u32 ((v : Int) % 4294967296) = .int .u32 ((v % 4294967296 : Nat) : Int)
      rw [Int.natCast_emod]; rfl
    · show D.int .u32 ((v : Int) / 4294967296) = .int .u32 ((v / 4294967296 : Nat) : Int)
      rw [Int.natCast_ediv]; rfl
    · omega
  simp (maxSteps := 3000000) (disch := first | exact trivial | assumption | omega | exact RegOk.mk (by decide +kernel) | exact RegCl.mk (by decide +kernel) | exact RegNo.mk (by kernel_rfl)) only [go_sem, seval]
theorem r1_AddL {a b : List Nat} (la : lows a) (lb : lows b) (ha : a.length < 1073741824) (hb : b.length < 1073741824) : C E 60 [u32s a, u32s b] (nD (val a + val b)) := by
  refine CG_intro Tryd.func60 rfl (by kernel_rfl) rfl (by kernel_rfl) (by kernel_rfl) rfl ?_
  obtain ⟨N, hN, hNa, hNb, hNm⟩ : ∃ N : Nat, max (a.length : Int) (b.length : Int) + 1 = (N : Int) ∧ a.length < N ∧ b.length < N ∧ N ≤ 1073741824 := ⟨max a.length b.length + 1, by omega, by omega, by omega, by omega⟩
  simp (maxSteps := 3000000) (disch := first | exact trivial | assumption | omega | exact RegOk.mk (by decide +kernel) | exact RegCl.mk (by decide +kernel) | exact RegNo.mk (by kernel_rfl)) only [go_sem, seval, u32s, hN]
  refine ⟨by omega, by omega, by omega, ?_⟩
  refine AL.of (fun p : List Nat × Nat => lows p.1 ∧ p.1.length ≤ N ∧ p.2 ≤ 1 ∧ val p.1 + 4294967296 ^ p.1.length * p.2 = val (a.take p.1.length) + val (b.take p.1.length)) (fun p => N - p.1.length)
    (fun p => [(0, u32s a), (1, u32s b), (5, .sl 0 0 0 N), (6, .int .u64 p.2), (7, .int .i64 p.1.length)]) (fun p => [(0, .row false 0 false 1 N fun j => .int .u32 ((p.1.getD j 0 : Nat) : Int))]) ([], 0) ⟨fun x hx => (by cases hx), by simp, by simp, by simp [val]⟩ ?_ ?_ ?_ ?_
  · simp (maxSteps := 3000000) (disch := first | exact trivial | assumption | omega | exact RegOk.mk (by decide +kernel) | exact RegCl.mk (by decide +kernel) | exact RegNo.mk (by kernel_rfl)) only [go_sem, seval, u32s]
  · simp (maxSteps := 3000000) (disch := first | exact trivial | assumption | omega | exact RegOk.mk (by decide +kernel) | exact RegCl.mk (by decide +kernel) | exact RegNo.mk (by kernel_rfl)) only [go_sem, seval, u32s]
    exact fun _ _ => trivial
  · intro x _; simp (maxSteps := 3000000) (disch := first | exact trivial | assumption | omega | exact RegOk.mk (by decide +kernel) | exact RegCl.mk (by decide +kernel) | exact RegNo.mk (by kernel_rfl)) only [go_sem, seval]
  rintro ⟨g, c⟩ ⟨p1, p2, p3, p4⟩
  simp only at p1 p2 p3 p4
  have bX := la.getD g.length
  have bY := lb.getD g.length
  by_cases hi : g.length < N
  · have hd : decide ((g.length : Int) < (N : Int)) = true := by rw [decide_eq_true_eq]; omega
    obtain ⟨q1, q2, q3⟩ := add_step (x := a) (y := b) p1 p3 p4 bX bY rfl
    by_cases h1 : g.length < a.length
    · have hd1 : decide ((g.length : Int) < (a.length : Int)) = true := by rw [decide_eq_true_eq]; omega
      by_cases h2 : g.length < b.length
      · have hd2 : decide ((g.length : Int) < (b.length : Int)) = true := by rw [decide_eq_true_eq]; omega
        simp (maxSteps := 3000000) (disch := first | exact trivial | assumption | omega | exact RegOk.mk (by decide +kernel) | exact RegCl.mk (by decide +kernel) | exact RegNo.mk (by kernel_rfl)) only [go_sem, seval, u32s, hd, hd1, hd2, bits_low]
        refine ⟨(g ++ [(c + a.getD g.length 0 + b.getD g.length 0) % 4294967296], (c + a.getD g.length 0 + b.getD g.length 0) / 4294967296), ⟨q1, by simp; omega, q2, q3⟩, by simp only [List.length_append, List.length_singleton]; omega, ?_, ?_⟩
        · simp (maxSteps := 3000000) (disch := first | exact trivial | assumption | omega | exact RegOk.mk (by decide +kernel) | exact RegCl.mk (by decide +kernel) | exact RegNo.mk (by kernel_rfl)) only [go_sem, seval, u32s]
          exact ⟨LeV.of_eq (by congr 1), LeV.of_eq (by congr 1)⟩
        · simp (maxSteps := 3000000) (disch := first | exact trivial | assumption | omega | exact RegOk.mk (by decide +kernel) | exact RegCl.mk (by decide +kernel) | exact RegNo.mk (by kernel_rfl)) only [go_sem, seval]
          refine fun i hi => Le.of_eq ?_
          rw [getD_snoc]
          by_cases e : i = g.length
          · rw [if_pos e, if_pos e]; congr 1
          · rw [if_neg e, if_neg e]
      · have hd2 : decide ((g.length : Int) < (b.length : Int)) = false := by rw [decide_eq_false_iff_not]; omega
        have hY0 := getD_out (l := b) (i := g.length) (by omega)
        rw [hY0, Nat.add_zero] at q1 q2 q3
        simp (maxSteps := 3000000) (disch := first | exact trivial | assumption | omega | exact RegOk.mk (by decide +kernel) | exact RegCl.mk (by decide +kernel) | exact RegNo.mk (by kernel_rfl)) only [go_sem, seval, u32s, hd, hd1, hd2, bits_low]
        refine ⟨(g ++ [(c + a.getD g.length 0) % 4294967296], (c + a.getD g.length 0) / 4294967296), ⟨q1, by simp; omega, q2, q3⟩, by simp only [List.length_append, List.length_singleton]; omega, ?_, ?_⟩
        · simp (maxSteps := 3000000) (disch := first | exact trivial | assumption | omega | exact RegOk.mk (by decide +kernel) | exact RegCl.mk (by decide +kernel) | exact RegNo.mk (by kernel_rfl)) only [go_sem, seval, u32s]
          exact ⟨LeV.of_eq (by congr 1), LeV.of_eq (by congr 1)⟩
        · simp (maxSteps := 3000000) (disch := first | exact trivial | assumption | omega | exact RegOk.mk (by decide +kernel) | exact RegCl.mk (by decide +kernel) | exact RegNo.mk (by kernel_rfl)) only [go_sem, seval]
          refine fun i hi => Le.of_eq ?_
          rw [getD_snoc]
          by_cases e : i = g.length
          · rw [if_pos e, if_pos e]; congr 1
          · rw [if_neg e, if_neg e]
    · have hd1 : decide ((g.length : Int) < (a.length : Int)) = false := by rw [decide_eq_false_iff_not]; omega
      have hX0 := getD_out (l := a) (i := g.length) (by omega)
      by_cases h2 : g.length < b.length
      · have hd2 : decide ((g.length : Int) < (b.length : Int)) = true := by rw [decide_eq_true_eq]; omega
        rw [hX0, Nat.add_zero] at q1 q2 q3
        simp (maxSteps := 3000000) (disch := first | exact trivial | assumption | omega | exact RegOk.mk (by decide +kernel) | exact RegCl.mk (by decide +kernel) | exact RegNo.mk (by kernel_rfl)) only [go_sem, seval, u32s, hd, hd1, hd2, bits_low]
        refine ⟨(g ++ [(c + b.getD g.length 0) % 4294967296], (c + b.getD g.length 0) / 4294967296), ⟨q1, by simp; omega, q2, q3⟩, by simp only [List.length_append, List.length_singleton]; omega, ?_, ?_⟩
        · simp (maxSteps := 3000000) (disch := first | exact trivial | assumption | omega | exact RegOk.mk (by decide +kernel) | exact RegCl.mk (by decide +kernel) | exact RegNo.mk (by kernel_rfl)) only [go_sem, seval, u32s]
          exact ⟨LeV.of_eq (by congr 1), LeV.of_eq (by congr 1)⟩
        · simp (maxSteps := 3000000) (disch := first | exact trivial | assumption | omega | exact RegOk.mk (by decide +kernel) | exact RegCl.mk (by decide +kernel) | exact RegNo.mk (by kernel_rfl)) only [go_sem, seval]
          refine fun i hi => Le.of_eq ?_
          rw [getD_snoc]
          by_cases e : i = g.length
          · rw [if_pos e, if_pos e]; congr 1
          · rw [if_neg e, if_neg e]
      · have hd2 : decide ((g.length : Int) < (b.length : Int)) = false := by rw [decide_eq_false_iff_not]; omega
        have hY0 := getD_out (l := b) (i := g.length) (by omega)
        rw [hX0, Nat.add_zero] at q1 q2 q3
        rw [hY0, Nat.add_zero] at q1 q2 q3
        simp (maxSteps := 3000000) (disch := first | exact trivial | assumption | omega | exact RegOk.mk (by decide +kernel) | exact RegCl.mk (by decide +kernel) | exact RegNo.mk (by kernel_rfl)) only [go_sem, seval, u32s, hd, hd1, hd2, bits_low]
        refine ⟨(g ++ [(c) % 4294967296], (c) / 4294967296), ⟨q1, by simp; omega, q2, q3⟩, by simp only [List.length_append, List.length_singleton]; omega, ?_, ?_⟩
        · simp (maxSteps := 3000000) (disch := first | exact trivial | assumption | omega | exact RegOk.mk (by decide +kernel) | exact RegCl.mk (by decide +kernel) | exact RegNo.mk (by kernel_rfl)) only [go_sem, seval, u32s]
          exact ⟨LeV.of_eq (by congr 1), LeV.of_eq (by congr 1)⟩
        · simp (maxSteps := 3000000) (disch := first | exact trivial | assumption | omega | exact RegOk.mk (by decide +kernel) | exact RegCl.mk (by decide +kernel) | exact RegNo.mk (by kernel_rfl)) only [go_sem, seval]
          refine fun i hi => Le.of_eq ?_
          rw [getD_snoc]
          by_cases e : i = g.length
          · rw [if_pos e, if_pos e]; congr 1
          · rw [if_neg e, if_neg e]
  · have hd : decide ((g.length : Int) < (N : Int)) = false := by rw [decide_eq_false_iff_not]; omega
    obtain rfl : N = g.length := by omega
    rw [List.take_of_length_le (by omega), List.take_of_length_le (by omega)] at p4
    simp (maxSteps := 3000000) (disch := first | exact trivial | assumption | omega | exact RegOk.mk (by decide +kernel) | exact RegCl.mk (by decide +kernel) | exact RegNo.mk (by kernel_rfl)) only [go_sem, seval, u32s, hd]
    have hg : val g = val a + val b := by
      have e1 := val_lt la
      have e2 := val_lt lb
      have e3 : 4294967296 ^ a.length ≤ 4294967296 ^ (g.length - 1) := Nat.pow_le_pow_right (by omega) (by omega)
      have e4 : 4294967296 ^ b.length ≤ 4294967296 ^ (g.length - 1) := Nat.pow_le_pow_right (by omega) (by omega)
      have e5 : 4294967296 ^ g.length = 4294967296 ^ (g.length - 1) * 4294967296 := by rw [← Nat.pow_succ]; congr 1; omega
      generalize 4294967296 ^ (g.length - 1) = B at *
      rcases (show c = 0 ∨ c = 1 by omega) with rfl | rfl
      · omega
      · omega
    refine callC (r1_trim p1 (by omega)) ?_ rfl ?_
    · simp (maxSteps := 3000000) (disch := first | exact trivial | assumption | omega | exact RegOk.mk (by decide +kernel) | exact RegCl.mk (by decide +kernel) | exact RegNo.mk (by kernel_rfl)) only [go_sem, seval, u32s]
    rw [hg]
    simp (maxSteps := 3000000) (disch := first | exact trivial | assumption | omega | exact RegOk.mk (by decide +kernel) | exact RegCl.mk (by decide +kernel) | exact RegNo.mk (by kernel_rfl)) only [go_sem, seval]
theorem r1_Add {a b : Nat} (ha : nb a < 1073741824) (hb : nb b < 1073741824) : C E 60 [nD a, nD b] (nD (a + b)) := by
  have := r1_AddL (limbs_low a) (limbs_low b) ha hb
  rwa [val_limbs, val_limbs] at this
end Go.Proofs.YtpobbfhdkbnpmaaDoor.Lv
