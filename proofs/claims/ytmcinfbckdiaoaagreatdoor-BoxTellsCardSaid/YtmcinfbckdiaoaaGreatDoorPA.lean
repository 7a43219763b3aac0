/- The program's numbers: how many digits, cut, Of. -/
import Derived.Test.YtmcinfbckdiaoaaGreatDoorEa
import Derived.Test.YtmcinfbckdiaoaaGreatDoorNm
import Derived.Test.YtmcinfbckdiaoaaGreatDoorBW32
set_option linter.unusedVariables false
set_option linter.unusedSimpArgs false
set_option maxRecDepth 100000
set_option maxHeartbeats 4000000
namespace Go.Proofs.YtmcinfbckdiaoaaGreatDoor.Lv
open Go Go.RowKit

attribute [go_sem] asAgg_nat one_nat cl_nat flat_nat imp_nat refs_nat cl_u32s flat_u32s imp_u32s refs_u32s one_u32s
/-- A row of limbs. -/
def lR (l : List Nat) : Nat → D := fun i => .int .u32 ((l.getD i 0 : Nat) : Int)
theorem u32s_lR (l : List Nat) : u32s l = .ro false 1 l.length (lR l) := rfl
theorem natD_u32s (n : Nat) : natD n = .agg [u32s (limbs n)] := rfl
/-- How many binary digits. -/
def nbit (n : Nat) : Nat := if n = 0 then 0 else n.log2 + 1
theorem nbit_lt {n k : Nat} : nbit n ≤ k ↔ n < 2 ^ k := by
  unfold nbit
  by_cases h : n = 0
  · subst h; simp [Nat.pow_pos]
  · rw [if_neg h, Nat.succ_le_iff, Nat.log2_lt h]
theorem cut_fin {l : List Nat} {k : Nat} (hl : lows l) (h1 : k ≤ l.length) (h2 : val (l.take k) = val l) (h3 : ∀ j, j + 1 = k → l.getD j 0 ≠ 0) : limbs (val l) = l.take k := by
  rw [← h2]
  refine limbs_val (hl.take k) fun j hj => ?_
  rw [List.length_take] at hj
  rw [getD_take (by omega)]
  exact h3 j (by omega)
theorem nat_cut {l : List Nat} (hl : lows l) (hn : l.length < 4611686018427387904) : C E 98 [u32s l] (natD (val l)) := by
  refine CG_intro Tryz.func98 rfl (by kernel_rfl) rfl (by kernel_rfl) (by kernel_rfl) rfl ?_
  simp (maxSteps := 3000000) (disch := first | exact trivial | assumption | omega | exact RegOk.mk (by decide +kernel) | exact RegCl.mk (by decide +kernel) | exact RegNo.mk (by kernel_rfl)) only [go_sem, seval, u32s]
  refine AL.of (fun k : Nat => k ≤ l.length ∧ val (l.take k) = val l) (fun k => k) (fun k => [(0, .ro false 1 k (lR l)), (2, .ad 0 0)]) (fun _ => [(0, .var true 1 (.agg [.nils]))]) l.length ⟨by omega, by simp⟩ ?_ ?_ ?_ ?_
  · simp (maxSteps := 3000000) (disch := first | exact trivial | assumption | omega | exact RegOk.mk (by decide +kernel) | exact RegCl.mk (by decide +kernel) | exact RegNo.mk (by kernel_rfl)) only [go_sem, seval]
    exact LeV.refl _
  · simp (maxSteps := 3000000) (disch := first | exact trivial | assumption | omega | exact RegOk.mk (by decide +kernel) | exact RegCl.mk (by decide +kernel) | exact RegNo.mk (by kernel_rfl)) only [go_sem, seval]
  · intro x _; simp (maxSteps := 3000000) (disch := first | exact trivial | assumption | omega | exact RegOk.mk (by decide +kernel) | exact RegCl.mk (by decide +kernel) | exact RegNo.mk (by kernel_rfl)) only [go_sem, seval]
  rintro k ⟨h1, h2⟩
  have fin : (∀ j, j + 1 = k → l.getD j 0 ≠ 0) → LeV (.agg [.ro false 1 k (lR l)]) (natD (val l)) := fun h3 => by
    have e := cut_fin hl h1 h2 h3
    rw [natD_u32s, u32s_lR, e]
    refine LeV.agg (LesV.cons (LeV.ro (by rw [List.length_take]; omega) fun i hi => Le.of_eq ?_) LesV.nil)
    rw [lR, lR, getD_take hi]
  by_cases hk : 0 < k
  · obtain ⟨j, rfl⟩ : ∃ j, k = j + 1 := ⟨k - 1, by omega⟩
    have ej : (((j + 1 : Nat) : Int) - 1).toNat = j := by omega
    by_cases h0 : l.getD j 0 = 0
    · simp (maxSteps := 3000000) (disch := first | exact trivial | assumption | omega | exact RegOk.mk (by decide +kernel) | exact RegCl.mk (by decide +kernel) | exact RegNo.mk (by kernel_rfl)) only [go_sem, seval, ej, lR]
      refine ⟨j, ⟨by omega, by rw [← val_take (by omega) h0]; exact h2⟩, Nat.lt_succ_self j, ?_, ?_⟩
      · simp (maxSteps := 3000000) (disch := first | exact trivial | assumption | omega | exact RegOk.mk (by decide +kernel) | exact RegCl.mk (by decide +kernel) | exact RegNo.mk (by kernel_rfl)) only [go_sem, seval]
        exact LeV.refl _
      · simp (maxSteps := 3000000) (disch := first | exact trivial | assumption | omega | exact RegOk.mk (by decide +kernel) | exact RegCl.mk (by decide +kernel) | exact RegNo.mk (by kernel_rfl)) only [go_sem, seval]
    · simp (maxSteps := 3000000) (disch := first | exact trivial | assumption | omega | exact RegOk.mk (by decide +kernel) | exact RegCl.mk (by decide +kernel) | exact RegNo.mk (by kernel_rfl)) only [go_sem, seval, ej, lR]
      exact fin fun j' hj' => by
        obtain rfl : j' = j := by omega
        exact h0
  · obtain rfl : k = 0 := by omega
    simp (maxSteps := 3000000) (disch := first | exact trivial | assumption | omega | exact RegOk.mk (by decide +kernel) | exact RegCl.mk (by decide +kernel) | exact RegNo.mk (by kernel_rfl)) only [go_sem, seval]
    exact fin fun j hj => by omega
/-- The same of a row of the caller's own, which it keeps. -/
theorem nat_cut_own {l : List Nat} (hl : lows l) (hn : l.length < 4611686018427387904) (ver : Nat) : CG E 98 [.sl 0 ver 0 l.length] [(0, .row false ver false 1 l.length (lR l))] (.agg [.sl 0 ver 0 (nb (val l))]) [(0, .row false ver false 1 l.length (lR l))] := by
  refine CG_intro Tryz.func98 rfl (by kernel_rfl) rfl (by kernel_rfl) (by kernel_rfl) rfl ?_
  simp (maxSteps := 3000000) (disch := first | exact trivial | assumption | omega | exact RegOk.mk (by decide +kernel) | exact RegCl.mk (by decide +kernel) | exact RegNo.mk (by kernel_rfl)) only [go_sem, seval]
  refine AL.of (fun k : Nat => k ≤ l.length ∧ val (l.take k) = val l) (fun k => k) (fun k => [(0, .sl 0 ver 0 k), (2, .ad 1 0)]) (fun _ => [(0, .row false ver false 1 l.length (lR l)), (1, .var true 1 (.agg [.nils]))]) l.length ⟨by omega, by simp⟩ ?_ ?_ ?_ ?_
  · simp (maxSteps := 3000000) (disch := first | exact trivial | assumption | omega | exact RegOk.mk (by decide +kernel) | exact RegCl.mk (by decide +kernel) | exact RegNo.mk (by kernel_rfl)) only [go_sem, seval]
  · simp (maxSteps := 3000000) (disch := first | exact trivial | assumption | omega | exact RegOk.mk (by decide +kernel) | exact RegCl.mk (by decide +kernel) | exact RegNo.mk (by kernel_rfl)) only [go_sem, seval]
    try exact fun _ _ => trivial
  · intro x _; simp (maxSteps := 3000000) (disch := first | exact trivial | assumption | omega | exact RegOk.mk (by decide +kernel) | exact RegCl.mk (by decide +kernel) | exact RegNo.mk (by kernel_rfl)) only [go_sem, seval]
  rintro k ⟨h1, h2⟩
  have fin : (∀ j, j + 1 = k → l.getD j 0 ≠ 0) → nb (val l) = k := fun h3 => by
    have e := cut_fin hl h1 h2 h3
    rw [nb, e, List.length_take]; omega
  by_cases hk : 0 < k
  · obtain ⟨j, rfl⟩ : ∃ j, k = j + 1 := ⟨k - 1, by omega⟩
    have ej : (((j + 1 : Nat) : Int) - 1).toNat = j := by omega
    by_cases h0 : l.getD j 0 = 0
    · simp (maxSteps := 3000000) (disch := first | exact trivial | assumption | omega | exact RegOk.mk (by decide +kernel) | exact RegCl.mk (by decide +kernel) | exact RegNo.mk (by kernel_rfl)) only [go_sem, seval, ej, lR]
      refine ⟨j, ⟨by omega, by rw [← val_take (by omega) h0]; exact h2⟩, Nat.lt_succ_self j, ?_, ?_⟩
      · simp (maxSteps := 3000000) (disch := first | exact trivial | assumption | omega | exact RegOk.mk (by decide +kernel) | exact RegCl.mk (by decide +kernel) | exact RegNo.mk (by kernel_rfl)) only [go_sem, seval]
      · simp (maxSteps := 3000000) (disch := first | exact trivial | assumption | omega | exact RegOk.mk (by decide +kernel) | exact RegCl.mk (by decide +kernel) | exact RegNo.mk (by kernel_rfl)) only [go_sem, seval]
        try exact fun _ _ => trivial
    · have hf := fin fun j' hj' => by
        obtain rfl : j' = j := by omega
        exact h0
      rw [hf]
      simp (maxSteps := 3000000) (disch := first | exact trivial | assumption | omega | exact RegOk.mk (by decide +kernel) | exact RegCl.mk (by decide +kernel) | exact RegNo.mk (by kernel_rfl)) only [go_sem, seval, ej, lR]
      try exact fun _ _ => trivial
  · obtain rfl : k = 0 := by omega
    have hf := fin fun j hj => by omega
    rw [hf]
    simp (maxSteps := 3000000) (disch := first | exact trivial | assumption | omega | exact RegOk.mk (by decide +kernel) | exact RegCl.mk (by decide +kernel) | exact RegNo.mk (by kernel_rfl)) only [go_sem, seval]
    try exact fun _ _ => trivial
theorem LesV_rows {ag : Bool} {sz n m : Nat} {f g : Nat → D} (e : n = m) (h : ∀ i, i < n → f i = g i) : LesV [.ro ag sz n f] [.ro ag sz m g] := LesV.cons (LeV.ro e fun i hi => Le.of_eq (h i hi)) LesV.nil
theorem nat_Of {v : Nat} (h : v < 18446744073709551616) : C E 99 [.int .u64 v] (natD v) := by
  refine CG_intro Tryz.func99 rfl (by kernel_rfl) rfl (by kernel_rfl) (by kernel_rfl) rfl ?_
  have e1 : IntKind.u32.wrap (v : Int) = ((v % 4294967296 : Nat) : Int) := by rw [wrap_u32']; omega
  have e2 : IntKind.u32.wrap ((v : Int) / 4294967296) = ((v / 4294967296 : Nat) : Int) := by rw [wrap_u32']; omega
  simp (maxSteps := 3000000) (disch := first | exact trivial | assumption | omega | exact RegOk.mk (by decide +kernel) | exact RegCl.mk (by decide +kernel) | exact RegNo.mk (by kernel_rfl)) only [go_sem, seval, e1, e2]
  have hc := nat_cut (l := [v % 4294967296, v / 4294967296]) (by intro x hx; simp at hx; omega) (by simp)
  rw [show val [v % 4294967296, v / 4294967296] = v by simp only [val]; omega] at hc
  refine callC hc ?_ rfl ?_
  · simp (maxSteps := 3000000) (disch := first | exact trivial | assumption | omega | exact RegOk.mk (by decide +kernel) | exact RegCl.mk (by decide +kernel) | exact RegNo.mk (by kernel_rfl)) only [go_sem, seval, u32s]
    refine LesV_rows rfl fun i hi => ?_
    rcases i with _ | _ | i
    · rfl
    · rfl
    · omega
  simp (maxSteps := 3000000) (disch := first | exact trivial | assumption | omega | exact RegOk.mk (by decide +kernel) | exact RegCl.mk (by decide +kernel) | exact RegNo.mk (by kernel_rfl)) only [go_sem, seval]
def len8 : List UInt8 := [0, 1, 2, 2, 3, 3, 3, 3, 4, 4, 4, 4, 4, 4, 4, 4, 5, 5, 5, 5, 5, 5, 5, 5, 5, 5, 5, 5, 5, 5, 5, 5, 6, 6, 6, 6, 6, 6, 6, 6, 6, 6, 6, 6, 6, 6, 6, 6, 6, 6, 6, 6, 6, 6, 6, 6, 6, 6, 6, 6, 6, 6, 6, 6, 7, 7, 7, 7, 7, 7, 7, 7, 7, 7, 7, 7, 7, 7, 7, 7, 7, 7, 7, 7, 7, 7, 7, 7, 7, 7, 7, 7, 7, 7, 7, 7, 7, 7, 7, 7, 7, 7, 7, 7, 7, 7, 7, 7, 7, 7, 7, 7, 7, 7, 7, 7, 7, 7, 7, 7, 7, 7, 7, 7, 7, 7, 7, 7, 8, 8, 8, 8, 8, 8, 8, 8, 8, 8, 8, 8, 8, 8, 8, 8, 8, 8, 8, 8, 8, 8, 8, 8, 8, 8, 8, 8, 8, 8, 8, 8, 8, 8, 8, 8, 8, 8, 8, 8, 8, 8, 8, 8, 8, 8, 8, 8, 8, 8, 8, 8, 8, 8, 8, 8, 8, 8, 8, 8, 8, 8, 8, 8, 8, 8, 8, 8, 8, 8, 8, 8, 8, 8, 8, 8, 8, 8, 8, 8, 8, 8, 8, 8, 8, 8, 8, 8, 8, 8, 8, 8, 8, 8, 8, 8, 8, 8, 8, 8, 8, 8, 8, 8, 8, 8, 8, 8, 8, 8, 8, 8, 8, 8, 8, 8, 8, 8, 8, 8, 8, 8, 8, 8, 8, 8, 8, 8]
theorem len8_nbit (x : Nat) (h : x < 256) : (len8.getD x 0).toNat = nbit x := by
  have : ∀ x : Fin 256, (len8.getD x.val 0).toNat = nbit x.val := by decide +kernel
  exact this ⟨x, h⟩
theorem nbit_div (x k : Nat) (h : 2 ^ k ≤ x) : nbit x = nbit (x / 2 ^ k) + k := by
  have hp : 0 < 2 ^ k := Nat.two_pow_pos k
  have h0 : x / 2 ^ k ≠ 0 := fun e => by
    have := (Nat.div_eq_zero_iff_lt hp).1 e
    omega
  have : ∀ m, nbit x ≤ m ↔ nbit (x / 2 ^ k) + k ≤ m := fun m => by
    rw [nbit_lt]
    by_cases hm : k ≤ m
    · obtain ⟨j, rfl⟩ := Nat.exists_eq_add_of_le hm
      rw [show nbit (x / 2 ^ k) + k ≤ k + j ↔ nbit (x / 2 ^ k) ≤ j by omega, nbit_lt, Nat.div_lt_iff_lt_mul hp, Nat.pow_add, Nat.mul_comm]
    · constructor
      · intro h'
        have := Nat.pow_le_pow_right (n := 2) (by omega) (show m ≤ k by omega)
        omega
      · intro h'; omega
  exact Nat.le_antisymm ((this _).2 (Nat.le_refl _)) ((this _).1 (Nat.le_refl _))
theorem bits_Len32 {x : Nat} (hx : x < 4294967296) : C E 133 [.int .u32 x] (.int .i64 (nbit x)) := by
  refine CG_intro Tryz.func133 rfl (by kernel_rfl) rfl (by kernel_rfl) (by kernel_rfl) rfl ?_
  have w8 : ∀ y : Nat, y < 256 → IntKind.u8.wrap (y : Int) = (y : Int) := fun y hy => wrap_u8 (by omega)
  have fin : ∀ (y : Nat) (k : Int), y < 256 → 0 ≤ k → k < 30 → (nbit x : Int) = nbit y + k → LeV (.int .i64 (IntKind.i64.wrap (k + IntKind.i64.wrap ((len8.getD y 0).toNat : Int)))) (.int .i64 (nbit x)) := fun y k hy h0 h1 h => by
    have hl := (len8.getD y 0).toNat_lt
    have he := len8_nbit y hy
    rw [wrap_i64 (n := ((len8.getD y 0).toNat : Int)) (by omega), wrap_i64 (by omega), he, h]
    exact LeV.of_eq (by rw [Int.add_comm])
  by_cases h1 : 65536 ≤ x
  · have e1 := nbit_div x 16 h1
    have d1 : (x : Int) / 65536 = ((x / 65536 : Nat) : Int) := by omega
    by_cases h2 : 256 ≤ x / 65536
    · have e2 := nbit_div (x / 65536) 8 h2
      have d2 : ((x / 65536 : Nat) : Int) / 256 = ((x / 65536 / 256 : Nat) : Int) := by omega
      simp (maxSteps := 3000000) (disch := first | exact trivial | assumption | omega | exact RegOk.mk (by decide +kernel) | exact RegCl.mk (by decide +kernel) | exact RegNo.mk (by kernel_rfl)) only [go_sem, seval, d1, d2, w8, List.append_eq]
      exact fin (x / 65536 / 256) 24 (by omega) (by omega) (by omega) (by rw [show (2:Nat) ^ 16 = 65536 from rfl] at e1; rw [show (2:Nat) ^ 8 = 256 from rfl] at e2; omega)
    · simp (maxSteps := 3000000) (disch := first | exact trivial | assumption | omega | exact RegOk.mk (by decide +kernel) | exact RegCl.mk (by decide +kernel) | exact RegNo.mk (by kernel_rfl)) only [go_sem, seval, d1, w8, List.append_eq]
      exact fin (x / 65536) 16 (by omega) (by omega) (by omega) (by rw [show (2:Nat) ^ 16 = 65536 from rfl] at e1; omega)
  · by_cases h2 : 256 ≤ x
    · have e2 := nbit_div x 8 h2
      have d2 : (x : Int) / 256 = ((x / 256 : Nat) : Int) := by omega
      simp (maxSteps := 3000000) (disch := first | exact trivial | assumption | omega | exact RegOk.mk (by decide +kernel) | exact RegCl.mk (by decide +kernel) | exact RegNo.mk (by kernel_rfl)) only [go_sem, seval, d2, w8, List.append_eq]
      exact fin (x / 256) 8 (by omega) (by omega) (by omega) (by rw [show (2:Nat) ^ 8 = 256 from rfl] at e2; omega)
    · simp (maxSteps := 3000000) (disch := first | exact trivial | assumption | omega | exact RegOk.mk (by decide +kernel) | exact RegCl.mk (by decide +kernel) | exact RegNo.mk (by kernel_rfl)) only [go_sem, seval, w8, List.append_eq]
      exact fin x 0 (by omega) (by omega) (by omega) (by omega)
end Go.Proofs.YtmcinfbckdiaoaaGreatDoor.Lv
