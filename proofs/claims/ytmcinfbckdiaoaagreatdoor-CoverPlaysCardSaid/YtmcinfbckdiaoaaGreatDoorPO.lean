/- The program's numbers: Shr. -/
import Derived.Test.YtmcinfbckdiaoaaGreatDoorPN
set_option linter.unusedVariables false
set_option linter.unusedSimpArgs false
set_option maxRecDepth 100000
set_option maxHeartbeats 4000000
namespace Go.Proofs.YtmcinfbckdiaoaaGreatDoor.Lv
open Go Go.RowKit
theorem lows_dropL {l : List Nat} (h : lows l) (k : Nat) : lows (l.drop k) := lows_drop h k
theorem val_drop {l : List Nat} (hl : lows l) {s : Nat} (hs : s ≤ l.length) : val (l.drop s) = val l / 4294967296 ^ s := by
  have h1 := val_cut l s hs
  have h2 := val_ltB (lows_take hl s)
  rw [List.length_take, Nat.min_eq_left hs] at h2
  conv => rhs; rw [h1]
  rw [Nat.add_mul_div_left _ _ (Nat.pow_pos (by omega)), Nat.div_eq_of_lt h2, Nat.zero_add]
theorem shr_fact (x r : Nat) (hx : x < 4294967296) (hr : r < 32) : ((x : Int)).fdiv ((2 ^ r : Nat) : Int) = ((x / 2 ^ r : Nat) : Int) ∧ IntKind.u64.wrap ((x : Int) * ((2 ^ (32 - r) : Nat) : Int)) = ((x * 2 ^ (32 - r) : Nat) : Int) ∧ IntKind.u32.wrap ((x * 2 ^ (32 - r) : Nat) : Int) = ((x * 2 ^ (32 - r) % 4294967296 : Nat) : Int) := by
  obtain ⟨_, _, h1⟩ := shr_limb (x := x) (y := 0) hx (by omega) hr
  rw [← Int.natCast_mul]
  generalize x * 2 ^ (32 - r) = p at *
  refine ⟨by rw [Int.fdiv_eq_ediv_of_nonneg _ (Int.natCast_nonneg _)]; exact (Int.natCast_ediv _ _).symm, wrap_u64 (by omega), by rw [wrap_u32']; omega⟩
theorem LeV_int {k : IntKind} {a b : Int} (h : a = b) : LeV (.int k a) (.int k b) := LeV.of_eq (by rw [h])
theorem min32 {r : Nat} (h : r < 32) : min r 32 = r := by omega
theorem nat_Shr {a : Nat} (ha : nb a < 536870912) (n : Int) : C E 142 [natD a, .int .i64 n] (natD (a / 2 ^ shN n)) := by
  refine CG_intro Tryz.func142 rfl (by kernel_rfl) rfl (by kernel_rfl) (by kernel_rfl) rfl ?_
  have hmn := shN_eq n
  have hle := shN_le n
  have hpow : 2 ^ shN n = 4294967296 ^ (shN n / 32) * 2 ^ (shN n % 32) := by
    conv => lhs; rw [← Nat.div_add_mod (shN n) 32]
    rw [Nat.pow_add, Nat.pow_mul]
  rw [hpow, ← Nat.div_div_eq_div_mul]
  clear hpow
  have ha' : (limbs a).length < 536870912 := ha
  have va := val_limbs a
  have la := limbs_low a
  have hq := quo32 (shN n)
  have hr := rem32 (shN n)
  have hr32 : shN n % 32 < 32 := Nat.mod_lt _ (by omega)
  have hs32 : shN n / 32 ≤ 32768 := by omega
  generalize shN n / 32 = s at *
  generalize shN n % 32 = r at *
  generalize shN n = k at *
  simp only [natD]
  by_cases hs : (limbs a).length ≤ s
  · have h0 : a / 4294967296 ^ s / 2 ^ r = 0 := by
      have := (nb_lt (n := a) (k := s)).1 hs
      rw [Nat.div_eq_of_lt this, Nat.zero_div]
    rw [h0, limbs_zero]
    generalize limbs a = l at *
    simp (maxSteps := 3000000) (disch := first | exact trivial | assumption | omega | exact rOk | exact rCl | exact rNo) only [go_sem, seval, natD, u32s, hmn, hq, hr]
    try exact LeV.agg (LesV.cons LeV.nils LesV.nil)
  · have hd : val ((limbs a).drop s) = a / 4294967296 ^ s := by rw [val_drop la (by omega), va]
    rw [← hd]
    have ld := lows_drop la s
    have hdl : ((limbs a).drop s).length = (limbs a).length - s := List.length_drop
    have hge : ∀ i, (limbs a).getD (s + i) 0 = ((limbs a).drop s).getD i 0 := fun i => by rw [List.getD_eq_getElem?_getD, List.getD_eq_getElem?_getD, List.getElem?_drop]
    generalize hm : (limbs a).drop s = m at *
    generalize limbs a = l at *
    have e0 : ((l.length : Int).toNat - s) = m.length := by omega
    have e1 : l.length - s = m.length := by omega
    simp (maxSteps := 3000000) (disch := first | exact trivial | assumption | omega | exact rOk | exact rCl | exact rNo) only [go_sem, seval, natD, u32s, hmn, hq, hr, e0, e1, hge]
    refine ⟨by omega, by omega, by omega, ?_⟩
    refine AL.of (fun z : Nat × List Nat => ShrI m r z.1 z.2) (fun z => m.length - z.1) (fun z => [(1, .int .i64 k), (4, .ad 1 0), (6, .sl 2 0 0 m.length), (27, u32s m), (28, .int .i64 m.length), (29, .int .i64 z.1)])
      (fun z => [(2, .row false 0 false 1 m.length (lR z.2)), (1, .var true 1 (.agg [.nils])), (0, .var true 1 (.agg [u32s l]))]) (0, List.replicate m.length 0) (ShrI.zero m r) ?_ ?_ ?_ ?_
    · simp (maxSteps := 3000000) (disch := first | exact trivial | assumption | omega | exact rOk | exact rCl | exact rNo) only [go_sem, seval, u32s, e0, lR]
      try exact LeV.refl _
    · simp (maxSteps := 3000000) (disch := first | exact trivial | assumption | omega | exact rOk | exact rCl | exact rNo) only [go_sem, seval, u32s, e0]
      try exact fun i hi => Le.of_eq (by unfold lR; rw [List.getD_eq_getElem?_getD, List.getElem?_replicate, if_pos hi]; rfl)
    · intro x _; simp (maxSteps := 3000000) (disch := first | exact trivial | assumption | omega | exact rOk | exact rCl | exact rNo) only [go_sem, seval]
    rintro ⟨i, w⟩ hI
    have hI : ShrI m r i w := hI
    by_cases hi : i = m.length
    · subst hi
      obtain ⟨q1, q2⟩ := hI.fin
      have hlen := hI.2.1
      have hc := nat_cut q1 (by omega)
      rw [q2] at hc
      clear hI
      simp (maxSteps := 3000000) (disch := first | exact trivial | assumption | omega | exact rOk | exact rCl | exact rNo) only [go_sem, seval, u32s]
      refine callC hc ?_ rfl ?_
      · simp (maxSteps := 3000000) (disch := first | exact trivial | assumption | omega | exact rOk | exact rCl | exact rNo) only [go_sem, seval, u32s]
        exact LesV_rows (by omega) fun j hj => rfl
      simp (maxSteps := 3000000) (disch := first | exact trivial | assumption | omega | exact rOk | exact rCl | exact rNo) only [go_sem, seval]
      try exact LeV.refl _
    · have hil : i ≤ m.length := hI.1
      have hi' : i < m.length := by omega
      obtain ⟨f1, f2, f3⟩ := shr_fact (m.getD i 0) r (ld.getD i) hr32
      have gx := ld.getD i
      have hlen := hI.2.1
      have e32 : ((32 : Int) - (r : Int)).toNat = 32 - r := by omega
      have m64 : min (32 - r) 64 = 32 - r := by omega
      rcases i with _ | i
      · have hn := hI.first ld hi'
        clear hI
        simp (maxSteps := 3000000) (disch := first | exact trivial | assumption | omega | exact rOk | exact rCl | exact rNo) only [go_sem, seval, u32s, lR, hq, hr, f1, f2, f3, min32]
        refine ⟨(1, _), hn, by show m.length - 1 < m.length - 0; omega, ?_, ?_⟩
        · simp (maxSteps := 3000000) (disch := first | exact trivial | assumption | omega | exact rOk | exact rCl | exact rNo) only [go_sem, seval, u32s]
        · simp (maxSteps := 3000000) (disch := first | exact trivial | assumption | omega | exact rOk | exact rCl | exact rNo) only [go_sem, seval, u32s]
          exact fun j hj => Le.of_eq (lR_set' (w := w) (by omega))
      · obtain ⟨g1, g2, hn⟩ := hI.next ld hr32 hi'
        have hw := hI.2.2.1.getD i
        have ho := bits_or32 (w.getD i 0) (m.getD (i + 1) 0 * 2 ^ (32 - r) % 4294967296) hw (Nat.mod_lt _ (by omega))
        rw [g1] at ho
        have ei : (((i + 1 : Nat) : Int) - 1).toNat = i := by omega
        have hne : i ≠ i + 1 := by omega
        clear hI
        simp (maxSteps := 3000000) (disch := first | exact trivial | assumption | omega | exact rOk | exact rCl | exact rNo) only [go_sem, seval, u32s, lR, hq, hr, f1, f2, f3, min32, m64, e32, ei, hne, ho]
        refine ⟨(i + 2, _), hn, by show m.length - (i + 2) < m.length - (i + 1); omega, ?_, ?_⟩
        · simp (maxSteps := 3000000) (disch := first | exact trivial | assumption | omega | exact rOk | exact rCl | exact rNo) only [go_sem, seval, u32s]
          exact LeV_int (by omega)
        · simp (maxSteps := 3000000) (disch := first | exact trivial | assumption | omega | exact rOk | exact rCl | exact rNo) only [go_sem, seval, u32s]
          exact fun j hj => Le.of_eq (lR_set2 (w := w) (by omega) (by omega))
end Go.Proofs.YtmcinfbckdiaoaaGreatDoor.Lv
