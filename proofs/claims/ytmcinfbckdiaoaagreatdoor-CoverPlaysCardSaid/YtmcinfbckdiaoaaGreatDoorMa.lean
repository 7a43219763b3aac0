/- The program's numbers: how many digits, cut, Of. The program's numbers: Bits, Zeros, Low. The program's numbers: Zeros, Cmp. The program's numbers: Cmp. -/
import Derived.Test.YtmcinfbckdiaoaaGreatDoorEa
import Derived.Test.YtmcinfbckdiaoaaGreatDoorNm
import Derived.Test.YtmcinfbckdiaoaaGreatDoorBW32
set_option linter.unusedVariables false
set_option linter.unusedSimpArgs false
set_option maxRecDepth 100000
set_option maxHeartbeats 4000000
namespace Go.Proofs.YtmcinfbckdiaoaaGreatDoor.Lv
open Go Go.RowKit

attribute [go_sem] asAgg_nat one_nat cl_nat flat_nat imp_nat refs_nat cl_u32s flat_u32s imp_u32s refs_u32s one_u32s
/-- A row of limbs. -/
def lR (l : List Nat) : Nat → D := fun i => .int .u32 ((l.getD i 0 : Nat) : Int)
theorem u32s_lR (l : List Nat) : u32s l = .ro false 1 l.length (lR l) := rfl
theorem natD_u32s (n : Nat) : natD n = .agg [u32s (limbs n)] := rfl
/-- How many binary digits. -/
def nbit (n : Nat) : Nat := if n = 0 then 0 else n.log2 + 1
theorem nbit_lt {n k : Nat} : nbit n ≤ k ↔ n < 2 ^ k := by
  unfold nbit
  by_cases h : n = 0
  · subst h; simp [Nat.pow_pos]
  · rw [if_neg h, Nat.succ_le_iff, Nat.log2_lt h]
theorem cut_fin {l : List Nat} {k : Nat} (hl : lows l) (h1 : k ≤ l.length) (h2 : val (l.take k) = val l) (h3 : ∀ j, j + 1 = k → l.getD j 0 ≠ 0) : limbs (val l) = l.take k := by
  rw [← h2]
  refine limbs_val (hl.take k) fun j hj => ?_
  rw [List.length_take] at hj
  rw [getD_take (by omega)]
  exact h3 j (by omega)
theorem nat_cut {l : List Nat} (hl : lows l) (hn : l.length < 4611686018427387904) : C E 98 [u32s l] (natD (val l)) := by
  refine CG_intro Tryz.func98 rfl (by kernel_rfl) rfl (by kernel_rfl) (by kernel_rfl) rfl ?_
  simp (maxSteps := 3000000) (disch := first | exact trivial | assumption | omega | exact rOk | exact rCl | exact rNo) only [go_sem, seval, u32s]
  refine AL.of (fun k : Nat => k ≤ l.length ∧ val (l.take k) = val l) (fun k => k) (fun k => [(0, .ro false 1 k (lR l)), (2, .ad 0 0)]) (fun _ => [(0, .var true 1 (.agg [.nils]))]) l.length ⟨by omega, by simp⟩ ?_ ?_ ?_ ?_
  · simp (maxSteps := 3000000) (disch := first | exact trivial | assumption | omega | exact rOk | exact rCl | exact rNo) only [go_sem, seval]
    exact LeV.refl _
  · simp (maxSteps := 3000000) (disch := first | exact trivial | assumption | omega | exact rOk | exact rCl | exact rNo) only [go_sem, seval]
  · intro x _; simp (maxSteps := 3000000) (disch := first | exact trivial | assumption | omega | exact rOk | exact rCl | exact rNo) only [go_sem, seval]
  rintro k ⟨h1, h2⟩
  have fin : (∀ j, j + 1 = k → l.getD j 0 ≠ 0) → LeV (.agg [.ro false 1 k (lR l)]) (natD (val l)) := fun h3 => by
    have e := cut_fin hl h1 h2 h3
    rw [natD_u32s, u32s_lR, e]
    refine LeV.agg (LesV.cons (LeV.ro (by rw [List.length_take]; omega) fun i hi => Le.of_eq ?_) LesV.nil)
    rw [lR, lR, getD_take hi]
  by_cases hk : 0 < k
  · obtain ⟨j, rfl⟩ : ∃ j, k = j + 1 := ⟨k - 1, by omega⟩
    have ej : (((j + 1 : Nat) : Int) - 1).toNat = j := by omega
    by_cases h0 : l.getD j 0 = 0
    · simp (maxSteps := 3000000) (disch := first | exact trivial | assumption | omega | exact rOk | exact rCl | exact rNo) only [go_sem, seval, ej, lR]
      refine ⟨j, ⟨by omega, by rw [← val_take (by omega) h0]; exact h2⟩, Nat.lt_succ_self j, ?_, ?_⟩
      · simp (maxSteps := 3000000) (disch := first | exact trivial | assumption | omega | exact rOk | exact rCl | exact rNo) only [go_sem, seval]
        exact LeV.refl _
      · simp (maxSteps := 3000000) (disch := first | exact trivial | assumption | omega | exact rOk | exact rCl | exact rNo) only [go_sem, seval]
    · simp (maxSteps := 3000000) (disch := first | exact trivial | assumption | omega | exact rOk | exact rCl | exact rNo) only [go_sem, seval, ej, lR]
      exact fin fun j' hj' => by
        obtain rfl : j' = j := by omega
        exact h0
  · obtain rfl : k = 0 := by omega
    simp (maxSteps := 3000000) (disch := first | exact trivial | assumption | omega | exact rOk | exact rCl | exact rNo) only [go_sem, seval]
    exact fin fun j hj => by omega
/-- The same of a row of the caller's own, which it keeps. -/
theorem nat_cut_own {l : List Nat} (hl : lows l) (hn : l.length < 4611686018427387904) (ver : Nat) : CG E 98 [.sl 0 ver 0 l.length] [(0, .row false ver false 1 l.length (lR l))] (.agg [.sl 0 ver 0 (nb (val l))]) [(0, .row false ver false 1 l.length (lR l))] := by
  refine CG_intro Tryz.func98 rfl (by kernel_rfl) rfl (by kernel_rfl) (by kernel_rfl) rfl ?_
  simp (maxSteps := 3000000) (disch := first | exact trivial | assumption | omega | exact rOk | exact rCl | exact rNo) only [go_sem, seval]
  refine AL.of (fun k : Nat => k ≤ l.length ∧ val (l.take k) = val l) (fun k => k) (fun k => [(0, .sl 0 ver 0 k), (2, .ad 1 0)]) (fun _ => [(0, .row false ver false 1 l.length (lR l)), (1, .var true 1 (.agg [.nils]))]) l.length ⟨by omega, by simp⟩ ?_ ?_ ?_ ?_
  · simp (maxSteps := 3000000) (disch := first | exact trivial | assumption | omega | exact rOk | exact rCl | exact rNo) only [go_sem, seval]
  · simp (maxSteps := 3000000) (disch := first | exact trivial | assumption | omega | exact rOk | exact rCl | exact rNo) only [go_sem, seval]
    try exact fun _ _ => trivial
  · intro x _; simp (maxSteps := 3000000) (disch := first | exact trivial | assumption | omega | exact rOk | exact rCl | exact rNo) only [go_sem, seval]
  rintro k ⟨h1, h2⟩
  have fin : (∀ j, j + 1 = k → l.getD j 0 ≠ 0) → nb (val l) = k := fun h3 => by
    have e := cut_fin hl h1 h2 h3
    rw [nb, e, List.length_take]; omega
  by_cases hk : 0 < k
  · obtain ⟨j, rfl⟩ : ∃ j, k = j + 1 := ⟨k - 1, by omega⟩
    have ej : (((j + 1 : Nat) : Int) - 1).toNat = j := by omega
    by_cases h0 : l.getD j 0 = 0
    · simp (maxSteps := 3000000) (disch := first | exact trivial | assumption | omega | exact rOk | exact rCl | exact rNo) only [go_sem, seval, ej, lR]
      refine ⟨j, ⟨by omega, by rw [← val_take (by omega) h0]; exact h2⟩, Nat.lt_succ_self j, ?_, ?_⟩
      · simp (maxSteps := 3000000) (disch := first | exact trivial | assumption | omega | exact rOk | exact rCl | exact rNo) only [go_sem, seval]
      · simp (maxSteps := 3000000) (disch := first | exact trivial | assumption | omega | exact rOk | exact rCl | exact rNo) only [go_sem, seval]
        try exact fun _ _ => trivial
    · have hf := fin fun j' hj' => by
        obtain rfl : j' = j := by omega
        exact h0
      rw [hf]
      simp (maxSteps := 3000000) (disch := first | exact trivial | assumption | omega | exact rOk | exact rCl | exact rNo) only [go_sem, seval, ej, lR]
      try exact fun _ _ => trivial
  · obtain rfl : k = 0 := by omega
    have hf := fin fun j hj => by omega
    rw [hf]
    simp (maxSteps := 3000000) (disch := first | exact trivial | assumption | omega | exact rOk | exact rCl | exact rNo) only [go_sem, seval]
    try exact fun _ _ => trivial
theorem LesV_rows {ag : Bool} {sz n m : Nat} {f g : Nat → D} (e : n = m) (h : ∀ i, i < n → f i = g i) : LesV [.ro ag sz n f] [.ro ag sz m g] := LesV.cons (LeV.ro e fun i hi => Le.of_eq (h i hi)) LesV.nil
theorem nat_Of {v : Nat} (h : v < 18446744073709551616) : C E 99 [.int .u64 v] (natD v) := by
  refine CG_intro Tryz.func99 rfl (by kernel_rfl) rfl (by kernel_rfl) (by kernel_rfl) rfl ?_
  have e1 : IntKind.u32.wrap (v : Int) = ((v % 4294967296 : Nat) : Int) := by rw [wrap_u32']; omega
  have e2 : IntKind.u32.wrap ((v : Int) / 4294967296) = ((v / 4294967296 : Nat) : Int) := by rw [wrap_u32']; omega
  simp (maxSteps := 3000000) (disch := first | exact trivial | assumption | omega | exact rOk | exact rCl | exact rNo) only [go_sem, seval, e1, e2]
  have hc := nat_cut (l := [v % 4294967296, v / 4294967296]) (by intro x hx; simp at hx; omega) (by simp)
  rw [show val [v % 4294967296, v / 4294967296] = v by simp only [val]; omega] at hc
  refine callC hc ?_ rfl ?_
  · simp (maxSteps := 3000000) (disch := first | exact trivial | assumption | omega | exact rOk | exact rCl | exact rNo) only [go_sem, seval, u32s]
    refine LesV_rows rfl fun i hi => ?_
    rcases i with _ | _ | i
    · rfl
    · rfl
    · omega
  simp (maxSteps := 3000000) (disch := first | exact trivial | assumption | omega | exact rOk | exact rCl | exact rNo) only [go_sem, seval]
def len8 : List UInt8 := [0, 1, 2, 2, 3, 3, 3, 3, 4, 4, 4, 4, 4, 4, 4, 4, 5, 5, 5, 5, 5, 5, 5, 5, 5, 5, 5, 5, 5, 5, 5, 5, 6, 6, 6, 6, 6, 6, 6, 6, 6, 6, 6, 6, 6, 6, 6, 6, 6, 6, 6, 6, 6, 6, 6, 6, 6, 6, 6, 6, 6, 6, 6, 6, 7, 7, 7, 7, 7, 7, 7, 7, 7, 7, 7, 7, 7, 7, 7, 7, 7, 7, 7, 7, 7, 7, 7, 7, 7, 7, 7, 7, 7, 7, 7, 7, 7, 7, 7, 7, 7, 7, 7, 7, 7, 7, 7, 7, 7, 7, 7, 7, 7, 7, 7, 7, 7, 7, 7, 7, 7, 7, 7, 7, 7, 7, 7, 7, 8, 8, 8, 8, 8, 8, 8, 8, 8, 8, 8, 8, 8, 8, 8, 8, 8, 8, 8, 8, 8, 8, 8, 8, 8, 8, 8, 8, 8, 8, 8, 8, 8, 8, 8, 8, 8, 8, 8, 8, 8, 8, 8, 8, 8, 8, 8, 8, 8, 8, 8, 8, 8, 8, 8, 8, 8, 8, 8, 8, 8, 8, 8, 8, 8, 8, 8, 8, 8, 8, 8, 8, 8, 8, 8, 8, 8, 8, 8, 8, 8, 8, 8, 8, 8, 8, 8, 8, 8, 8, 8, 8, 8, 8, 8, 8, 8, 8, 8, 8, 8, 8, 8, 8, 8, 8, 8, 8, 8, 8, 8, 8, 8, 8, 8, 8, 8, 8, 8, 8, 8, 8, 8, 8, 8, 8, 8, 8]
theorem len8_nbit (x : Nat) (h : x < 256) : (len8.getD x 0).toNat = nbit x := by
  have : ∀ x : Fin 256, (len8.getD x.val 0).toNat = nbit x.val := by decide +kernel
  exact this ⟨x, h⟩
theorem nbit_div (x k : Nat) (h : 2 ^ k ≤ x) : nbit x = nbit (x / 2 ^ k) + k := by
  have hp : 0 < 2 ^ k := Nat.two_pow_pos k
  have h0 : x / 2 ^ k ≠ 0 := fun e => by
    have := (Nat.div_eq_zero_iff_lt hp).1 e
    omega
  have : ∀ m, nbit x ≤ m ↔ nbit (x / 2 ^ k) + k ≤ m := fun m => by
    rw [nbit_lt]
    by_cases hm : k ≤ m
    · obtain ⟨j, rfl⟩ := Nat.exists_eq_add_of_le hm
      rw [show nbit (x / 2 ^ k) + k ≤ k + j ↔ nbit (x / 2 ^ k) ≤ j by omega, nbit_lt, Nat.div_lt_iff_lt_mul hp, Nat.pow_add, Nat.mul_comm]
    · constructor
      · intro h'
        have := Nat.pow_le_pow_right (n := 2) (by omega) (show m ≤ k by omega)
        omega
      · intro h'; omega
  exact Nat.le_antisymm ((this _).2 (Nat.le_refl _)) ((this _).1 (Nat.le_refl _))
theorem bits_Len32 {x : Nat} (hx : x < 4294967296) : C E 133 [.int .u32 x] (.int .i64 (nbit x)) := by
  refine CG_intro Tryz.func133 rfl (by kernel_rfl) rfl (by kernel_rfl) (by kernel_rfl) rfl ?_
  have w8 : ∀ y : Nat, y < 256 → IntKind.u8.wrap (y : Int) = (y : Int) := fun y hy => wrap_u8 (by omega)
  have fin : ∀ (y : Nat) (k : Int), y < 256 → 0 ≤ k → k < 30 → (nbit x : Int) = nbit y + k → LeV (.int .i64 (IntKind.i64.wrap (k + IntKind.i64.wrap ((len8.getD y 0).toNat : Int)))) (.int .i64 (nbit x)) := fun y k hy h0 h1 h => by
    have hl := (len8.getD y 0).toNat_lt
    have he := len8_nbit y hy
    rw [wrap_i64 (n := ((len8.getD y 0).toNat : Int)) (by omega), wrap_i64 (by omega), he, h]
    exact LeV.of_eq (by rw [Int.add_comm])
  by_cases h1 : 65536 ≤ x
  · have e1 := nbit_div x 16 h1
    have d1 : (x : Int) / 65536 = ((x / 65536 : Nat) : Int) := by omega
    by_cases h2 : 256 ≤ x / 65536
    · have e2 := nbit_div (x / 65536) 8 h2
      have d2 : ((x / 65536 : Nat) : Int) / 256 = ((x / 65536 / 256 : Nat) : Int) := by omega
      simp (maxSteps := 3000000) (disch := first | exact trivial | assumption | omega | exact rOk | exact rCl | exact rNo) only [go_sem, seval, d1, d2, w8, List.append_eq]
      exact fin (x / 65536 / 256) 24 (by omega) (by omega) (by omega) (by rw [show (2:Nat) ^ 16 = 65536 from rfl] at e1; rw [show (2:Nat) ^ 8 = 256 from rfl] at e2; omega)
    · simp (maxSteps := 3000000) (disch := first | exact trivial | assumption | omega | exact rOk | exact rCl | exact rNo) only [go_sem, seval, d1, w8, List.append_eq]
      exact fin (x / 65536) 16 (by omega) (by omega) (by omega) (by rw [show (2:Nat) ^ 16 = 65536 from rfl] at e1; omega)
  · by_cases h2 : 256 ≤ x
    · have e2 := nbit_div x 8 h2
      have d2 : (x : Int) / 256 = ((x / 256 : Nat) : Int) := by omega
      simp (maxSteps := 3000000) (disch := first | exact trivial | assumption | omega | exact rOk | exact rCl | exact rNo) only [go_sem, seval, d2, w8, List.append_eq]
      exact fin (x / 256) 8 (by omega) (by omega) (by omega) (by rw [show (2:Nat) ^ 8 = 256 from rfl] at e2; omega)
    · simp (maxSteps := 3000000) (disch := first | exact trivial | assumption | omega | exact rOk | exact rCl | exact rNo) only [go_sem, seval, w8, List.append_eq]
      exact fin x 0 (by omega) (by omega) (by omega) (by omega)
end Go.Proofs.YtmcinfbckdiaoaaGreatDoor.Lv

set_option linter.unusedVariables false
set_option linter.unusedSimpArgs false
set_option maxRecDepth 100000
set_option maxHeartbeats 4000000
namespace Go.Proofs.YtmcinfbckdiaoaaGreatDoor.Lv
open Go Go.RowKit

theorem limbs_ne {n : Nat} (h : n ≠ 0) : 0 < (limbs n).length := by rw [limbs_pos h]; simp
theorem nbit_limbs {n k : Nat} (hk : (limbs n).length = k + 1) : nbit n = 32 * k + nbit ((limbs n).getD k 0) ∧ (limbs n).getD k 0 ≠ 0 := by
  have hl := limbs_low n
  have hv := val_cut (limbs n) k (by omega)
  have hd : (limbs n).drop k = [(limbs n).getD k 0] := by
    rw [List.drop_eq_getElem_cons (by omega), List.drop_of_length_le (by omega), List.getD_eq_getElem?_getD, List.getElem?_eq_getElem (by omega)]
    rfl
  rw [val_limbs, hd] at hv
  simp only [val, Nat.mul_zero, Nat.add_zero] at hv
  have h1 := val_ltB (lows_take hl k)
  rw [List.length_take, Nat.min_eq_left (by omega)] at h1
  have hne : (limbs n).getD k 0 ≠ 0 := fun h0 => by
    rw [h0, Nat.mul_zero, Nat.add_zero] at hv
    rw [← hv] at h1
    have := (nb_lt (n := n) (k := k)).2 h1
    unfold nb at this
    omega
  have hp : (4294967296 : Nat) ^ k = 2 ^ (32 * k) := by rw [Nat.pow_mul]
  have hle : 2 ^ (32 * k) ≤ n := by
    rw [← hp, hv]
    have : 4294967296 ^ k * 1 ≤ 4294967296 ^ k * (limbs n).getD k 0 := Nat.mul_le_mul_left _ (by omega)
    omega
  have hdiv : n / 2 ^ (32 * k) = (limbs n).getD k 0 := by
    rw [← hp]
    conv => lhs; rw [hv]
    rw [Nat.add_mul_div_left _ _ (Nat.pow_pos (by omega)), Nat.div_eq_of_lt h1, Nat.zero_add]
  refine ⟨?_, hne⟩
  rw [nbit_div n (32 * k) hle, hdiv, Nat.add_comm]
theorem nat_Bits {n : Nat} (hn : nb n < 1073741824) : C E 86 [natD n] (.int .i64 (nbit n)) := by
  refine CG_intro Tryz.func86 rfl (by kernel_rfl) rfl (by kernel_rfl) (by kernel_rfl) rfl ?_
  unfold nb at hn
  by_cases h0 : n = 0
  · subst h0
    simp (maxSteps := 3000000) (disch := first | exact trivial | assumption | omega | exact rOk | exact rCl | exact rNo) only [go_sem, seval, natD, u32s, limbs_zero]
    exact LeV.refl _
  obtain ⟨k, hk⟩ : ∃ k, (limbs n).length = k + 1 := ⟨(limbs n).length - 1, by have := limbs_ne h0; omega⟩
  obtain ⟨e1, e2⟩ := nbit_limbs hk
  have e3 : ((((limbs n).length : Nat) : Int) - 1).toNat = k := by omega
  have hlt := lows_getD (limbs_low n) k
  have hnb : nbit ((limbs n).getD k 0) ≤ 32 := nbit_lt.2 hlt
  simp (maxSteps := 3000000) (disch := first | exact trivial | assumption | omega | exact rOk | exact rCl | exact rNo) only [go_sem, seval, natD, u32s, e3]
  refine callCl (bits_Len32 hlt) (LesV.refl _) rfl ?_
  simp (maxSteps := 3000000) (disch := first | exact trivial | assumption | omega | exact rOk | exact rCl | exact rNo) only [go_sem, seval]
  exact LeV.of_eq (by rw [e1, hk]; congr 1; omega)
/-- How often 2 goes into it. -/
def tz (n : Nat) : Nat := if h : n = 0 then 0 else if n % 2 = 1 then 0 else tz (n / 2) + 1
termination_by n
decreasing_by omega
theorem tz_odd {n : Nat} (h : n % 2 = 1) : tz n = 0 := by rw [tz]; simp [h]
theorem tz_two {n : Nat} (h : n ≠ 0) : tz (2 * n) = tz n + 1 := by
  rw [tz, dif_neg (by omega), if_neg (by omega), show 2 * n / 2 = n by omega]
theorem tz_pow {n : Nat} (h : n ≠ 0) : ∀ k, tz (2 ^ k * n) = k + tz n
  | 0 => by rw [Nat.pow_zero, Nat.one_mul, Nat.zero_add]
  | k + 1 => by
    have hp : 2 ^ k * n ≠ 0 := Nat.mul_ne_zero (Nat.pos_iff_ne_zero.1 (Nat.two_pow_pos k)) h
    rw [Nat.pow_succ, Nat.mul_comm (2 ^ k), Nat.mul_assoc, tz_two hp, tz_pow h k]; omega
theorem tz_spec {n : Nat} (h : n ≠ 0) : ∃ a, n = 2 ^ tz n * (2 * a + 1) := by
  induction n using Nat.strongRecOn with
  | _ n ih =>
    by_cases h1 : n % 2 = 1
    · exact ⟨n / 2, by rw [tz_odd h1, Nat.pow_zero, Nat.one_mul]; omega⟩
    · obtain ⟨a, ha⟩ := ih (n / 2) (by omega) (by omega)
      refine ⟨a, ?_⟩
      have e : tz n = tz (n / 2) + 1 := by rw [tz, dif_neg h, if_neg h1]
      rw [e, Nat.pow_succ, Nat.mul_comm _ 2, Nat.mul_assoc, ← ha]; omega
theorem low_bit (k a w : Nat) (hw : 2 ^ k * (2 * a + 1) < 2 ^ w) : (2 ^ k * (2 * a + 1)) &&& (2 ^ w - 2 ^ k * (2 * a + 1)) = 2 ^ k := by
  have hp := Nat.two_pow_pos k
  have hx : 0 < 2 ^ k * (2 * a + 1) := Nat.mul_pos hp (by omega)
  have e1 : 2 ^ k * (2 * a + 1) = 2 ^ k * (2 * a) + 2 ^ k := by rw [Nat.mul_add, Nat.mul_one]
  have e2 : 2 ^ w - 2 ^ k * (2 * a + 1) = 2 ^ w - (2 ^ k * (2 * a) + (2 ^ k - 1) + 1) := by rw [e1]; omega
  have hlt : 2 ^ k * (2 * a) + (2 ^ k - 1) < 2 ^ w := by omega
  refine Nat.eq_of_testBit_eq fun i => ?_
  rw [Nat.testBit_and, e2, Nat.testBit_two_pow_sub_succ hlt, Nat.testBit_two_pow_mul_add _ (by omega), Nat.testBit_two_pow_mul, Nat.testBit_two_pow]
  by_cases h1 : i < k
  · have : ¬ k ≤ i := by omega
    simp [h1, this]; omega
  · simp only [h1, if_false]
    have h2 : k ≤ i := by omega
    by_cases h3 : i = k
    · have hkw : k < w := by
        refine (Nat.pow_lt_pow_iff_right (a := 2) (by omega)).1 ?_
        omega
      rw [h3]
      simp [hkw, Nat.testBit_zero]
    · obtain ⟨j, rfl⟩ : ∃ j, i = k + (j + 1) := ⟨i - k - 1, by omega⟩
      rw [show k + (j + 1) - k = j + 1 by omega, Nat.testBit_succ, Nat.testBit_succ, show (2 * a + 1) / 2 = a by omega, show 2 * a / 2 = a by omega]
      have : ¬ k = k + (j + 1) := by omega
      cases a.testBit j <;> simp [this]
theorem bits_and32 (a b : Nat) (ha : a < 4294967296) (hb : b < 4294967296) : bits .u32 .and (a : Int) (b : Int) = ((a &&& b : Nat) : Int) := by
  have e : ∀ v : Nat, v < 4294967296 → (BitVec.ofInt IntKind.u32.bits (v : Int)).toNat = v := fun v hv => by
    show (BitVec.ofInt 32 (v : Int)).toNat = v
    simp; omega
  have hlt : a &&& b < 4294967296 := Nat.and_lt_two_pow (n := 32) _ hb
  unfold bits
  simp only [BitVec.toNat_and, e a ha, e b hb]
  rw [wrap_u32 (by omega)]
theorem deBr_at : ∀ k : Nat, k < 32 → 2 ^ k * 125613361 % 4294967296 / 134217728 < 32 ∧ deBr.getD (2 ^ k * 125613361 % 4294967296 / 134217728) 0 = (k : Int) := by decide +kernel
theorem gv_deBr : E.gv 0 = .ra true 32 deBrD 0 := Eq.trans rfl rfl
theorem deBr_len : deBr.length = 32 := rfl
theorem tz_table {x : Nat} (h0 : x ≠ 0) (hx : x < 4294967296) : ∃ p q j : Nat, bits .u32 .and (x : Int) (IntKind.u32.wrap (0 - (x : Int))) = (p : Int) ∧ IntKind.u32.wrap ((p : Int) * 125613361) = (q : Int) ∧ (q : Int) / 134217728 = (j : Int) ∧ j < 32 ∧ deBr.getD j 0 = (tz x : Int) := by
  obtain ⟨a, ha⟩ := tz_spec h0
  generalize tz x = k at *
  have hk : k < 32 := by
    refine (Nat.pow_lt_pow_iff_right (a := 2) (by omega)).1 ?_
    have : 2 ^ k * 1 ≤ 2 ^ k * (2 * a + 1) := Nat.mul_le_mul_left _ (by omega)
    omega
  have hl := low_bit k a 32 (by rw [← ha]; exact hx)
  rw [← ha, show (2 : Nat) ^ 32 = 4294967296 from rfl] at hl
  have e1 : IntKind.u32.wrap (0 - (x : Int)) = ((4294967296 - x : Nat) : Int) := by rw [wrap_u32']; omega
  have e2 : bits .u32 .and (x : Int) ((4294967296 - x : Nat) : Int) = ((2 ^ k : Nat) : Int) := by
    rw [bits_and32 _ _ hx (by omega), hl]
  obtain ⟨h1, h2⟩ := deBr_at k hk
  refine ⟨2 ^ k, 2 ^ k * 125613361 % 4294967296, 2 ^ k * 125613361 % 4294967296 / 134217728, by rw [e1, e2], ?_, ?_, h1, h2⟩
  · rw [wrap_u32']; generalize 2 ^ k = p; omega
  · generalize 2 ^ k * 125613361 % 4294967296 = q; omega
theorem deBr_map {j k : Nat} (h1 : j < 32) (h2 : deBr.getD j 0 = (k : Int)) : (deBr.map fun n => D.int .u8 n).getD j .unk = .int .u8 (k : Int) := by
  rw [List.getD_eq_getElem?_getD] at h2 ⊢
  rw [List.getElem?_map]
  have hj : j < deBr.length := h1
  rw [List.getElem?_eq_getElem hj] at h2 ⊢
  simp only [Option.getD_some, Option.map_some] at h2 ⊢
  rw [h2]
theorem bits_TrailingZeros32 {x : Nat} (h0 : x ≠ 0) (hx : x < 4294967296) : C E 167 [.int .u32 x] (.int .i64 (tz x)) := by
  refine CG_intro Tryz.func167 rfl (by kernel_rfl) rfl (by kernel_rfl) (by kernel_rfl) rfl ?_
  obtain ⟨p, q, j, e2, e3, e4, h1, h2⟩ := tz_table h0 hx
  have hk : (tz x : Int) < 32 := by
    have : ∀ j : Nat, j < 32 → deBr.getD j 0 < 32 := by decide +kernel
    rw [← h2]; exact this j h1
  have hb := deBr_map h1 h2
  generalize tz x = k at *
  clear h2
  simp (maxSteps := 3000000) (disch := first | exact trivial | assumption | omega | exact rOk | exact rCl | exact rNo) only [go_sem, seval, e2, e3, e4, gv_deBr, deBrD, deBr_len, hb]
end Go.Proofs.YtmcinfbckdiaoaaGreatDoor.Lv

set_option linter.unusedVariables false
set_option linter.unusedSimpArgs false
set_option maxRecDepth 100000
set_option maxHeartbeats 4000000
namespace Go.Proofs.YtmcinfbckdiaoaaGreatDoor.Lv
open Go Go.RowKit

theorem bits_LeadingZeros32 {x : Nat} (hx : x < 4294967296) : C E 139 [.int .u32 x] (.int .i64 ((32 - nbit x : Nat) : Int)) := by
  refine CG_intro Tryz.func139 rfl (by kernel_rfl) rfl (by kernel_rfl) (by kernel_rfl) rfl ?_
  have hnb : nbit x ≤ 32 := nbit_lt.2 hx
  simp (maxSteps := 3000000) (disch := first | exact trivial | assumption | omega | exact rOk | exact rCl | exact rNo) only [go_sem, seval]
  refine callC (bits_Len32 hx) (LesV.refl _) rfl ?_
  simp (maxSteps := 3000000) (disch := first | exact trivial | assumption | omega | exact rOk | exact rCl | exact rNo) only [go_sem, seval]
  exact LeV.of_eq (by congr 1; omega)
theorem tz_add (x r : Nat) (h0 : x ≠ 0) (hx : x < 4294967296) : tz (x + 4294967296 * r) = tz x := by
  obtain ⟨a, ha⟩ := tz_spec h0
  have hk : tz x < 32 := by
    refine (Nat.pow_lt_pow_iff_right (a := 2) (by omega)).1 ?_
    have : 2 ^ tz x * 1 ≤ 2 ^ tz x * (2 * a + 1) := Nat.mul_le_mul_left _ (by omega)
    omega
  generalize tz x = t at *
  obtain ⟨j, hj⟩ : ∃ j, 32 = t + (j + 1) := ⟨31 - t, by omega⟩
  have e : x + 4294967296 * r = 2 ^ t * (2 * (a + 2 ^ j * r) + 1) := by
    have h32 : (4294967296 : Nat) = 2 ^ t * (2 * 2 ^ j) := by
      rw [show 2 * 2 ^ j = 2 ^ (j + 1) by rw [Nat.pow_succ, Nat.mul_comm], ← Nat.pow_add, ← hj]
    conv => lhs; rw [h32, ha]
    rw [Nat.mul_assoc, ← Nat.mul_add, Nat.mul_assoc 2]
    congr 1
    omega
  rw [e, tz_pow (n := 2 * (a + 2 ^ j * r) + 1) (by omega), tz_odd (n := 2 * (a + 2 ^ j * r) + 1) (by omega), Nat.add_zero]
theorem tz_limbs {n i : Nat} (hz : ∀ j, j < i → (limbs n).getD j 0 = 0) (hx : (limbs n).getD i 0 ≠ 0) : tz n = 32 * i + tz ((limbs n).getD i 0) := by
  have hil : i < (limbs n).length := by
    rcases Nat.lt_or_ge i (limbs n).length with h | h
    · exact h
    · exact absurd (by rw [List.getD_eq_getElem?_getD, List.getElem?_eq_none h]; rfl) hx
  have hv := val_cut (limbs n) i (by omega)
  have hd : (limbs n).drop i = (limbs n).getD i 0 :: (limbs n).drop (i + 1) := by
    rw [List.drop_eq_getElem_cons hil, List.getD_eq_getElem?_getD, List.getElem?_eq_getElem hil]; rfl
  have ht : val ((limbs n).take i) = 0 := val_zero_iff.2 fun x hx' => by
    obtain ⟨j, hj, rfl⟩ := List.getElem_of_mem hx'
    rw [List.length_take] at hj
    have := hz j (by omega)
    rw [List.getD_eq_getElem?_getD, List.getElem?_eq_getElem (by omega)] at this
    rw [List.getElem_take]; exact this
  rw [val_limbs, ht, hd, val, Nat.zero_add, show (4294967296 : Nat) ^ i = 2 ^ (32 * i) by rw [Nat.pow_mul]] at hv
  have hlt := lows_getD (limbs_low n) i
  conv => lhs; rw [hv]
  rw [tz_pow (by omega), tz_add _ _ hx hlt]
theorem nat_Zeros {n : Nat} (hn : nb n < 1073741824) : C E 144 [natD n] (.int .i64 (tz n)) := by
  refine CG_intro Tryz.func144 rfl (by kernel_rfl) rfl (by kernel_rfl) (by kernel_rfl) rfl ?_
  unfold nb at hn
  simp (maxSteps := 3000000) (disch := first | exact trivial | assumption | omega | exact rOk | exact rCl | exact rNo) only [go_sem, seval, natD, u32s]
  refine AL.of (fun i : Nat => i ≤ (limbs n).length ∧ ∀ j, j < i → (limbs n).getD j 0 = 0) (fun i => (limbs n).length - i)
    (fun i => [(6, .ro false 1 (limbs n).length (lR (limbs n))), (7, .int .i64 (limbs n).length), (8, .int .i64 i)]) (fun _ => []) 0 ⟨by omega, fun j h => by omega⟩ ?_ ?_ ?_ ?_
  · simp (maxSteps := 3000000) (disch := first | exact trivial | assumption | omega | exact rOk | exact rCl | exact rNo) only [go_sem, seval]
    exact LeV.refl _
  · trivial
  · intro x _; simp (maxSteps := 3000000) (disch := first | exact trivial | assumption | omega | exact rOk | exact rCl | exact rNo) only [go_sem, seval]
  rintro i ⟨hi, hz⟩
  by_cases hil : i = (limbs n).length
  · subst hil
    simp (maxSteps := 3000000) (disch := first | exact trivial | assumption | omega | exact rOk | exact rCl | exact rNo) only [go_sem, seval]
    have h0 : n = 0 := by
      rw [← val_limbs n]
      refine val_zero_iff.2 fun x hx => ?_
      obtain ⟨j, hj, rfl⟩ := List.getElem_of_mem hx
      have := hz j hj
      rw [List.getD_eq_getElem?_getD, List.getElem?_eq_getElem hj] at this
      exact this
    exact LeV.of_eq (by rw [h0, tz]; rfl)
  · have hlt := lows_getD (limbs_low n) i
    by_cases hx : (limbs n).getD i 0 = 0
    · simp (maxSteps := 3000000) (disch := first | exact trivial | assumption | omega | exact rOk | exact rCl | exact rNo) only [go_sem, seval, lR]
      refine ⟨i + 1, ⟨by omega, fun j hj => ?_⟩, by show (limbs n).length - (i + 1) < (limbs n).length - i; omega, ?_, ?_⟩
      · by_cases e : j = i
        · subst e; exact hx
        · exact hz j (by omega)
      · simp (maxSteps := 3000000) (disch := first | exact trivial | assumption | omega | exact rOk | exact rCl | exact rNo) only [go_sem, seval]
        exact LeV.of_eq (by rw [Int.natCast_succ])
      · trivial
    · have ht := tz_limbs hz hx
      have htl : tz ((limbs n).getD i 0) < 32 := by
        obtain ⟨a, ha⟩ := tz_spec hx
        refine (Nat.pow_lt_pow_iff_right (a := 2) (by omega)).1 ?_
        have : 2 ^ tz ((limbs n).getD i 0) * 1 ≤ 2 ^ tz ((limbs n).getD i 0) * (2 * a + 1) := Nat.mul_le_mul_left _ (by omega)
        omega
      simp (maxSteps := 3000000) (disch := first | exact trivial | assumption | omega | exact rOk | exact rCl | exact rNo) only [go_sem, seval, lR]
      refine callC (bits_TrailingZeros32 hx hlt) (LesV.refl _) rfl ?_
      simp (maxSteps := 3000000) (disch := first | exact trivial | assumption | omega | exact rOk | exact rCl | exact rNo) only [go_sem, seval]
      exact LeV.of_eq (by rw [ht]; congr 1; try omega)
theorem backward_u32 (l : List Nat) : CG E 90 [u32s l] [] (.fn 135 [.ad 0 0]) [(0, .var false 1 (u32s l))] := by
  refine CG_intro Tryz.func90 rfl (by kernel_rfl) rfl (by kernel_rfl) (by kernel_rfl) rfl ?_
  simp (maxSteps := 3000000) (disch := first | exact trivial | assumption | omega | exact rOk | exact rCl | exact rNo) only [go_sem, seval]
theorem cmp_len {a b : Nat} (h : (limbs a).length < (limbs b).length) : a < b := by
  have h1 := (nb_lt (n := a) (k := (limbs a).length)).1 (Nat.le_refl _)
  rcases Nat.lt_or_ge a b with h' | h'
  · exact h'
  · have := (nb_lt (n := b) (k := (limbs a).length)).2 (by omega)
    unfold nb at this
    omega
theorem cmp_at {l m : List Nat} {k : Nat} (hl : lows l) (hm : lows m) (e : l.length = m.length) (hk : k < l.length) (hd : l.drop (k + 1) = m.drop (k + 1)) (h : l.getD k 0 < m.getD k 0) : val l < val m := by
  have h1 := val_cut l (k + 1) (by omega)
  have h2 := val_cut m (k + 1) (by omega)
  rw [val_take_succ, hd] at h1
  rw [val_take_succ] at h2
  have h3 := val_ltB (lows_take hl k)
  rw [List.length_take, Nat.min_eq_left (by omega)] at h3
  have h4 : 4294967296 ^ k * l.getD k 0 + 4294967296 ^ k ≤ 4294967296 ^ k * m.getD k 0 := by
    rw [← Nat.mul_succ]; exact Nat.mul_le_mul_left _ h
  rw [h1, h2]
  generalize 4294967296 ^ (k + 1) * val (m.drop (k + 1)) = t at *
  generalize 4294967296 ^ k * l.getD k 0 = u at *
  generalize 4294967296 ^ k * m.getD k 0 = v at *
  omega
end Go.Proofs.YtmcinfbckdiaoaaGreatDoor.Lv

set_option linter.unusedVariables false
set_option linter.unusedSimpArgs false
set_option maxRecDepth 100000
set_option maxHeartbeats 4000000
namespace Go.Proofs.YtmcinfbckdiaoaaGreatDoor.Lv
open Go Go.RowKit

theorem sgI_lt {x y : Int} (h : x < y) : sgI x y = -1 := by rw [sgI, if_pos h]
theorem sgI_gt {x y : Int} (h : y < x) : sgI x y = 1 := by rw [sgI, if_neg (by omega), if_neg (by omega)]
theorem sgI_eq (x : Int) : sgI x x = 0 := by rw [sgI, if_neg (by omega), if_pos rfl]
theorem sgI_cases (x y : Int) : (x < y ∧ sgI x y = -1) ∨ (x = y ∧ sgI x y = 0) ∨ (y < x ∧ sgI x y = 1) := by
  rcases Int.lt_trichotomy x y with h | h | h
  · exact .inl ⟨h, sgI_lt h⟩
  · subst h; exact .inr (.inl ⟨rfl, sgI_eq x⟩)
  · exact .inr (.inr ⟨h, sgI_gt h⟩)
theorem drop_eq_succ {l m : List Nat} {k : Nat} (e : l.length = m.length) (hk : k < l.length) (hd : l.drop (k + 1) = m.drop (k + 1)) (h : l.getD k 0 = m.getD k 0) : l.drop k = m.drop k := by
  rw [List.drop_eq_getElem_cons hk, List.drop_eq_getElem_cons (l := m) (i := k) (by omega), hd]
  rw [List.getD_eq_getElem?_getD, List.getD_eq_getElem?_getD, List.getElem?_eq_getElem hk, List.getElem?_eq_getElem (l := m) (by omega)] at h
  simp only [Option.getD_some] at h
  rw [h]
theorem nat_Cmp {a b : Nat} (ha : nb a < 1073741824) (hb : nb b < 1073741824) : C E 57 [natD a, natD b] (.int .i64 (sgI a b)) := by
  refine CG_intro Tryz.func57 rfl (by kernel_rfl) rfl (by kernel_rfl) (by kernel_rfl) rfl ?_
  unfold nb at ha hb
  simp (maxSteps := 3000000) (disch := first | exact trivial | assumption | omega | exact rOk | exact rCl | exact rNo) only [go_sem, seval, natD, u32s]
  by_cases h1 : (limbs a).length < (limbs b).length
  · have := cmp_len h1
    simp (maxSteps := 3000000) (disch := first | exact trivial | assumption | omega | exact rOk | exact rCl | exact rNo) only [go_sem, seval, natD, u32s]
    exact LeV.of_eq (by rw [sgI_lt (by omega)])
  by_cases h2 : (limbs b).length < (limbs a).length
  · have := cmp_len h2
    simp (maxSteps := 3000000) (disch := first | exact trivial | assumption | omega | exact rOk | exact rCl | exact rNo) only [go_sem, seval, natD, u32s]
    exact LeV.of_eq (by rw [sgI_gt (by omega)])
  have e : (limbs a).length = (limbs b).length := by omega
  have va := val_limbs a
  have vb := val_limbs b
  have la := limbs_low a
  have lb := limbs_low b
  generalize limbs a = l at *
  generalize limbs b = m at *
  subst va vb
  have fin : ∀ c : Int, sgI ((val l : Nat) : Int) ((val m : Nat) : Int) = c → LeV (.int .i64 c) (.int .i64 (sgI ((val l : Nat) : Int) ((val m : Nat) : Int))) := fun c h => LeV.of_eq (by rw [h])
  simp (maxSteps := 3000000) (disch := first | exact trivial | assumption | omega | exact rOk | exact rCl | exact rNo) only [go_sem, seval, natD, u32s, e]
  refine callG [] (backward_u32 l) rfl rfl ?_ rfl ?_
  · simp (maxSteps := 3000000) (disch := first | exact trivial | assumption | omega | exact rOk | exact rCl | exact rNo) only [go_sem, seval, u32s, e]
  simp (maxSteps := 3000000) (disch := first | exact trivial | assumption | omega | exact rOk | exact rCl | exact rNo) only [go_sem, seval, u32s, e]
  refine AB.of 135 3 (fun k : Nat => k ≤ m.length ∧ l.drop k = m.drop k) (fun k => k) (fun _ => [(2, .ad 0 0), (3, .ad 1 0), (4, .ad 2 0), (23, .fn 135 [.ad 3 0])])
    (fun _ => [(3, .var false 1 (u32s l)), (2, .var false 1 (.int .i64 0)), (1, .var true 1 (.agg [u32s m])), (0, .var true 1 (.agg [u32s l]))]) m.length bw_u32 ⟨by omega, by rw [List.drop_of_length_le (by omega), List.drop_of_length_le (by omega)]⟩ ?_ ?_ ?_ (y := u32s l) ?_ ?_ (by omega) ?_ ?_ ?_
  · simp (maxSteps := 3000000) (disch := first | exact trivial | assumption | omega | exact rOk | exact rCl | exact rNo) only [go_sem, seval, u32s, e]
  · simp (maxSteps := 3000000) (disch := first | exact trivial | assumption | omega | exact rOk | exact rCl | exact rNo) only [go_sem, seval, u32s, e]
    try exact ⟨LeV.refl _, LeV.refl _, LeV.refl _⟩
  · simp (maxSteps := 3000000) (disch := first | exact trivial | assumption | omega | exact rOk | exact rCl | exact rNo) only [go_sem, seval]
  · simp (maxSteps := 3000000) (disch := first | exact trivial | assumption | omega | exact rOk | exact rCl | exact rNo) only [go_sem, seval]
  · simp (maxSteps := 3000000) (disch := first | exact trivial | assumption | omega | exact rOk | exact rCl | exact rNo) only [go_sem, seval, u32s, e]
  · intro x' _; simp (maxSteps := 3000000) (disch := first | exact trivial | assumption | omega | exact rOk | exact rCl | exact rNo) only [go_sem, seval]
  · rintro x' ⟨_, h⟩ rfl
    simp (maxSteps := 3000000) (disch := first | exact trivial | assumption | omega | exact rOk | exact rCl | exact rNo) only [go_sem, seval, u32s]
    rw [List.drop_zero, List.drop_zero] at h
    subst h
    exact fin 0 (sgI_eq _)
  · rintro x' k ⟨hk1, hd⟩ hk rfl
    have g1 := la.getD k
    have g2 := lb.getD k
    refine ⟨u32s l, .int .u32 ((l.getD k 0 : Nat) : Int), rfl, by simp [elt, u32s]; omega, ?_⟩
    by_cases c1 : l.getD k 0 < m.getD k 0
    · have := cmp_at la lb e (by omega) hd c1
      simp (maxSteps := 3000000) (disch := first | exact trivial | assumption | omega | exact rOk | exact rCl | exact rNo) only [go_sem, seval, u32s]
      exact fin (-1) (sgI_lt (by omega))
    by_cases c2 : m.getD k 0 < l.getD k 0
    · have := cmp_at lb la e.symm (by omega) hd.symm c2
      simp (maxSteps := 3000000) (disch := first | exact trivial | assumption | omega | exact rOk | exact rCl | exact rNo) only [go_sem, seval, u32s]
      exact fin 1 (sgI_gt (by omega))
    · simp (maxSteps := 3000000) (disch := first | exact trivial | assumption | omega | exact rOk | exact rCl | exact rNo) only [go_sem, seval, u32s]
      refine BGo.of k (by simp (maxSteps := 3000000) (disch := first | exact trivial | assumption | omega | exact rOk | exact rCl | exact rNo) only [go_sem, seval]) ⟨by omega, drop_eq_succ e (by omega) hd (by omega)⟩ rfl (by simp [mx]) ?_ ?_
      · simp (maxSteps := 3000000) (disch := first | exact trivial | assumption | omega | exact rOk | exact rCl | exact rNo) only [go_sem, seval, u32s]
      · simp (maxSteps := 3000000) (disch := first | exact trivial | assumption | omega | exact rOk | exact rCl | exact rNo) only [go_sem, seval, u32s]
end Go.Proofs.YtmcinfbckdiaoaaGreatDoor.Lv
