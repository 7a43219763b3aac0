/- The program's numbers: Shl, Shr. -/
import Derived.Test.YtmcinfbckdiaoaaGreatDoorPH
import Derived.Test.YtmcinfbckdiaoaaGreatDoorNm
import Derived.Test.YtmcinfbckdiaoaaGreatDoorEa
set_option linter.unusedVariables false
set_option linter.unusedSimpArgs false
set_option maxRecDepth 100000
set_option maxHeartbeats 4000000
namespace Go.Proofs.YtmcinfbckdiaoaaGreatDoor.Lv
open Go Go.RowKit
theorem bits_or32 (a b : Nat) (ha : a < 4294967296) (hb : b < 4294967296) : bits .u32 .or (a : Int) (b : Int) = ((a ||| b : Nat) : Int) := by
  have e : ∀ v : Nat, v < 4294967296 → (BitVec.ofInt IntKind.u32.bits (v : Int)).toNat = v := fun v hv => by
    show (BitVec.ofInt 32 (v : Int)).toNat = v
    simp; omega
  have hlt : a ||| b < 4294967296 := Nat.or_lt_two_pow (n := 32) ha hb
  unfold bits
  simp only [BitVec.toNat_or, e a ha, e b hb]
  rw [wrap_u32 (by omega)]
/-- Limbs of a number, with limbs of nought behind. -/
def padL (n N : Nat) : List Nat := limbs n ++ List.replicate (N - nb n) 0
theorem pad_val {l : List Nat} (hl : lows l) : l = padL (val l) l.length := by
  suffices h : ∀ k, k ≤ l.length → val (l.take k) = val l → (∀ j, j + 1 = k → l.getD j 0 ≠ 0) → l = padL (val l) l.length by
    have : ∀ k, k ≤ l.length → val (l.take k) = val l → l = padL (val l) l.length := by
      intro k
      induction k with
      | zero => intro h1 h2; exact h 0 h1 h2 fun j hj => by omega
      | succ k ih =>
        intro h1 h2
        by_cases h0 : l.getD k 0 = 0
        · exact ih (by omega) (by rw [← val_take (by omega) h0]; exact h2)
        · exact h (k + 1) h1 h2 fun j hj => by
            obtain rfl : j = k := by omega
            exact h0
    exact this l.length (Nat.le_refl _) (by rw [List.take_length])
  intro k h1 h2 h3
  have e := cut_fin hl h1 h2 h3
  have hz : val (l.drop k) = 0 := by
    have := val_cut l k h1
    rw [h2] at this
    have hp : 0 < 4294967296 ^ k := Nat.pow_pos (by omega)
    rcases Nat.eq_zero_or_pos (val (l.drop k)) with h | h
    · exact h
    · have := Nat.mul_pos hp h; omega
  have hr : l.drop k = List.replicate (l.length - k) 0 := by
    rw [List.eq_replicate_iff]
    exact ⟨by rw [List.length_drop], fun x hx => val_zero_iff.1 hz x hx⟩
  have hn : nb (val l) = k := by rw [nb, e, List.length_take]; omega
  rw [padL, e, hn, ← hr, List.take_append_drop]
theorem padL_len {n N : Nat} (h : nb n ≤ N) : (padL n N).length = N := by
  rw [padL, List.length_append, List.length_replicate]; unfold nb at *; omega
theorem padL_getD {n N i : Nat} (h : i < nb n) : (padL n N).getD i 0 = (limbs n).getD i 0 := by
  rw [padL, List.getD_eq_getElem?_getD, List.getElem?_append_left h, List.getD_eq_getElem?_getD]
theorem nb_le_of {l : List Nat} (hl : lows l) : nb (val l) ≤ l.length := nb_lt.2 (val_ltB hl)
/-- How far a number is shifted. -/
def shN (n : Int) : Nat := (min (max n 0) 1048576).toNat
theorem shN_le (n : Int) : shN n ≤ 1048576 := by unfold shN; omega
theorem shN_eq (n : Int) : min (max n 0) 1048576 = (shN n : Int) := by unfold shN; omega
theorem shN_id {n : Nat} (h : n ≤ 1048576) : shN (n : Int) = n := by unfold shN; omega
theorem quo32 (n : Nat) : ((n : Int)).tdiv 32 = ((n / 32 : Nat) : Int) := (Int.ofNat_tdiv _ _).symm
theorem rem32 (n : Nat) : ((n : Int)).tmod 32 = ((n % 32 : Nat) : Int) := (Int.ofNat_tmod _ _).symm
theorem shl_fact (x r : Nat) (hx : x < 4294967296) (hr : r < 32) : IntKind.u64.wrap ((x : Int) * ((2 ^ r : Nat) : Int)) = ((x * 2 ^ r : Nat) : Int) ∧ IntKind.u32.wrap ((x * 2 ^ r : Nat) : Int) = ((x * 2 ^ r % 4294967296 : Nat) : Int) ∧ ((x * 2 ^ r : Nat) : Int) / 4294967296 = ((x * 2 ^ r / 4294967296 : Nat) : Int) ∧ IntKind.u32.wrap ((x * 2 ^ r / 4294967296 : Nat) : Int) = ((x * 2 ^ r / 4294967296 : Nat) : Int) := by
  obtain ⟨h1, h2, _⟩ := shl_limb hx hr
  rw [← Int.natCast_mul]
  generalize x * 2 ^ r = p at *
  refine ⟨wrap_u64 (by omega), by rw [wrap_u32']; omega, by omega, wrap_u32 (by omega)⟩
theorem min64 {r : Nat} (h : r < 64) : min r 64 = r := by omega
theorem lR_set2 {w : List Nat} {i k d e j : Nat} (hi : i < w.length) (hk : k < w.length) : (if j = k then D.int .u32 ((e : Nat) : Int) else if j = i then D.int .u32 ((d : Nat) : Int) else D.int .u32 ((w.getD j 0 : Nat) : Int)) = lR ((w.set i d).set k e) j := by
  rw [← lR_set' (by rw [List.length_set]; exact hk), ← lR_set' hi]
  rfl
theorem nat_Shl_own {a : Nat} (ha : nb a < 536870912) (n : Int) : CG E 140 [natD a, .int .i64 n] [] (.agg [.sl 2 0 0 (nb (a * 2 ^ shN n))])
    [(2, .row false 0 false 1 (nb a + shN n / 32 + 1) (lR (padL (a * 2 ^ shN n) (nb a + shN n / 32 + 1))))] := by
  refine CG_intro Tryz.func140 rfl (by kernel_rfl) rfl (by kernel_rfl) (by kernel_rfl) rfl ?_
  have hmn := shN_eq n
  have hle := shN_le n
  have hpow : 2 ^ shN n = 2 ^ (shN n % 32) * 4294967296 ^ (shN n / 32) := by
    conv => lhs; rw [← Nat.div_add_mod (shN n) 32]
    rw [Nat.pow_add, Nat.pow_mul, Nat.mul_comm]
  rw [hpow]
  unfold nb at ha ⊢
  have va := val_limbs a
  have la := limbs_low a
  have hq := quo32 (shN n)
  have hr := rem32 (shN n)
  have hr32 : shN n % 32 < 32 := Nat.mod_lt _ (by omega)
  have hs32 : shN n / 32 ≤ 32768 := by omega
  simp only [natD]
  generalize limbs a = l at *
  subst va
  generalize shN n / 32 = s at *
  generalize shN n % 32 = r at *
  generalize shN n = k at *
  have e0 : ((l.length : Int) + (s : Int) + 1).toNat = l.length + s + 1 := by omega
  simp (maxSteps := 3000000) (disch := first | exact trivial | assumption | omega | exact rOk | exact rCl | exact rNo) only [go_sem, seval, natD, u32s, e0, hmn, hq, hr]
  refine ⟨by omega, by omega, by omega, ?_⟩
  refine AL.of (fun z : Nat × List Nat => ShlI l s r z.1 z.2) (fun z => l.length - z.1) (fun z => [(1, .int .i64 k), (2, .ad 0 0), (4, .ad 1 0), (5, .sl 2 0 0 (l.length + s + 1)), (21, u32s l), (22, .int .i64 l.length), (23, .int .i64 z.1)])
    (fun z => [(2, .row false 0 false 1 (l.length + s + 1) (lR z.2)), (1, .var true 1 (.agg [.nils])), (0, .var true 1 (.agg [u32s l]))]) (0, List.replicate (l.length + s + 1) 0) (ShlI.zero l s r) ?_ ?_ ?_ ?_
  · simp (maxSteps := 3000000) (disch := first | exact trivial | assumption | omega | exact rOk | exact rCl | exact rNo) only [go_sem, seval, u32s, e0]
  · simp (maxSteps := 3000000) (disch := first | exact trivial | assumption | omega | exact rOk | exact rCl | exact rNo) only [go_sem, seval, u32s, e0]
    try exact fun i hi => Le.of_eq (by unfold lR; rw [List.getD_eq_getElem?_getD, List.getElem?_replicate, if_pos hi]; rfl)
  · intro x _; simp (maxSteps := 3000000) (disch := first | exact trivial | assumption | omega | exact rOk | exact rCl | exact rNo) only [go_sem, seval]
  rintro ⟨i, w⟩ hI
  have hI : ShlI l s r i w := hI
  clear hpow
  by_cases hi : i = l.length
  · subst hi
    obtain ⟨q1, q2⟩ := hI.fin
    have hlen := hI.2.1
    have hc := nat_cut_own q1 (by omega) 0
    have hpd := pad_val q1
    rw [hlen] at hpd hc
    clear hI
    rw [← q2, ← hpd]
    simp (maxSteps := 3000000) (disch := first | exact trivial | assumption | omega | exact rOk | exact rCl | exact rNo) only [go_sem, seval, u32s]
    refine callG [2] hc rfl (by simp (maxSteps := 3000000) (disch := first | exact trivial | assumption | omega | exact rOk | exact rCl | exact rNo) only [go_sem, seval]) ?_ ?_ ?_
    · simp (maxSteps := 3000000) (disch := first | exact trivial | assumption | omega | exact rOk | exact rCl | exact rNo) only [go_sem, seval]
    · simp (maxSteps := 3000000) (disch := first | exact trivial | assumption | omega | exact rOk | exact rCl | exact rNo) only [go_sem, seval]
    simp (maxSteps := 3000000) (disch := first | exact trivial | assumption | omega | exact rOk | exact rCl | exact rNo) only [go_sem, seval, u32s]
    exact ⟨LeV.refl _, fun _ _ => trivial⟩
  · have hil : i ≤ l.length := hI.1
    have hi' : i < l.length := by omega
    obtain ⟨g1, g2, hn⟩ := hI.next la hr32 hi'
    have hlen := hI.2.1
    have hw := hI.2.2.1.getD (i + s)
    have e1 : ((i : Int) + (s : Int)).toNat = i + s := by omega
    have e2 : ((i : Int) + (s : Int) + 1).toNat = i + s + 1 := by omega
    obtain ⟨f1, f2, f3, f4⟩ := shl_fact (l.getD i 0) r (la.getD i) hr32
    have ho := bits_or32 (w.getD (i + s) 0) (l.getD i 0 * 2 ^ r % 4294967296) hw (Nat.mod_lt _ (by omega))
    rw [g1] at ho
    have gx := la.getD i
    clear hI
    simp (maxSteps := 3000000) (disch := first | exact trivial | assumption | omega | exact rOk | exact rCl | exact rNo) only [go_sem, seval, u32s, lR, e1, e2, hq, hr, f1, f2, f3, f4, ho, min64]
    refine ⟨(i + 1, _), hn, by show l.length - (i + 1) < l.length - i; omega, ?_, ?_⟩
    · simp (maxSteps := 3000000) (disch := first | exact trivial | assumption | omega | exact rOk | exact rCl | exact rNo) only [go_sem, seval, u32s]
      try exact LeV.of_eq (by rw [Int.natCast_succ])
    · simp (maxSteps := 3000000) (disch := first | exact trivial | assumption | omega | exact rOk | exact rCl | exact rNo) only [go_sem, seval, u32s]
      exact fun j hj => Le.of_eq (lR_set2 (by omega) (by omega))
theorem LeV_nat {f : Nat → D} {n v : Nat} (e : n = nb v) (h : ∀ i, i < n → f i = lR (limbs v) i) : LeV (.ro false 1 n f) (u32s (limbs v)) := LeV.ro e fun i hi => Le.of_eq (h i hi)
theorem CG.le {E : Ctx} {f : FuncId} {args : List D} {h h' : Hp} {d d' : D} (hC : CG E f args h d h') (hd : LeV d d') : CG E f args h d' h' := by
  refine ⟨hC.1, fun S w vs φ hS hG hA hB hv => ?_⟩
  refine (hC.2 S w vs φ hS hG hA hB hv).mono fun e w' hq => ?_
  obtain ⟨v, S', φ', e, r1, r2⟩ := hq
  exact ⟨v, S', φ', e, hd _ _ _ _ _ r1, r2⟩
theorem nat_Shl {a : Nat} (ha : nb a < 536870912) (n : Int) : C E 140 [natD a, .int .i64 n] (natD (a * 2 ^ shN n)) := by
  refine CG.le ((nat_Shl_own ha n).freeze rfl) ?_
  refine LeV.agg (LesV.cons ?_ LesV.nil)
  simp only [imp, nof, lookB, if_true]
  exact LeV_nat rfl fun i hi => by
    show lR (padL _ _) (0 + i) = _
    rw [Nat.zero_add, lR, lR, padL_getD hi]
end Go.Proofs.YtmcinfbckdiaoaaGreatDoor.Lv
