/- Numbers out of bytes: the plain law. The law of a box' texts: the walk. Boxes as bytes: texts; the document's. Reading bytes: what the readers make, in plain words. The document's quotients: RatNew. Numbers out of bytes. Whole numbers and quotients out of bytes. -/
import Derived.Test.YtakaojkfipnfcaaGreatDoorG20
import Derived.Test.YtakaojkfipnfcaaGreatDoorG21
import Derived.Test.YtakaojkfipnfcaaGreatDoorG19
import Derived.Test.YtakaojkfipnfcaaGreatDoorG18
set_option linter.unusedVariables false
set_option linter.unusedSimpArgs false
set_option maxRecDepth 100000
set_option maxHeartbeats 4000000
namespace Go.Proofs.YtakaojkfipnfcaaGreatDoor.Lv
open Go Go.RowKit
/-- What bytes say, the highest first. -/
def valB : List UInt8 → Nat
  | [] => 0
  | c :: l => c.toNat * 256 ^ l.length + valB l
theorem valB_lt : ∀ l : List UInt8, valB l < 256 ^ l.length
  | [] => by simp [valB]
  | c :: l => by
    have h := valB_lt l
    have hc := c.toNat_lt
    simp only [valB, List.length_cons, Nat.pow_succ]
    generalize 256 ^ l.length = p at *
    have : c.toNat * p ≤ 255 * p := Nat.mul_le_mul_right _ (by omega)
    omega
/-- The last i of them. -/
def loB (l : List UInt8) (i : Nat) : Nat := valB (l.drop (l.length - i))
theorem loB_zero (l : List UInt8) : loB l 0 = 0 := by unfold loB; rw [Nat.sub_zero, List.drop_length]; rfl
theorem loB_all (l : List UInt8) : loB l l.length = valB l := by unfold loB; rw [Nat.sub_self, List.drop_zero]
theorem loB_lt {l : List UInt8} {i : Nat} (h : i ≤ l.length) : loB l i < 256 ^ i := by
  have := valB_lt (l.drop (l.length - i))
  rw [List.length_drop, show l.length - (l.length - i) = i by omega] at this
  exact this
theorem loB_succ {l : List UInt8} {i : Nat} (h : i < l.length) : loB l (i + 1) = 256 ^ i * (l.getD (l.length - 1 - i) 0).toNat + loB l i := by
  unfold loB
  rw [List.drop_eq_getElem_cons (i := l.length - (i + 1)) (by omega), valB, List.length_drop, show l.length - (i + 1) + 1 = l.length - i by omega, show l.length - (l.length - i) = i by omega, List.getD_eq_getElem?_getD, show l.length - 1 - i = l.length - (i + 1) by omega, List.getElem?_eq_getElem (by omega), Option.getD_some, Nat.mul_comm]
/-- So many limbs of a number. -/
def lmb (N x : Nat) : List Nat := (List.range N).map fun j => x / 4294967296 ^ j % 4294967296
theorem lmb_len (N x : Nat) : (lmb N x).length = N := by unfold lmb; rw [List.length_map, List.length_range]
theorem lmb_lows (N x : Nat) : lows (lmb N x) := fun y hy => by
  obtain ⟨j, _, rfl⟩ := List.mem_map.1 hy
  exact Nat.mod_lt _ (by omega)
theorem lmb_at {N x j : Nat} (h : j < N) : (lmb N x).getD j 0 = x / 4294967296 ^ j % 4294967296 := by
  unfold lmb
  rw [List.getD_eq_getElem?_getD, List.getElem?_map, List.getElem?_range h]
  rfl
theorem val_lmb (x : Nat) : ∀ N, val (lmb N x) = x % 4294967296 ^ N
  | 0 => by
    have : x % 4294967296 ^ 0 = 0 := by rw [Nat.pow_zero]; exact Nat.mod_one x
    rw [this]; rfl
  | N + 1 => by
    have h := val_lmb x N
    have e : lmb (N + 1) x = lmb N x ++ [x / 4294967296 ^ N % 4294967296] := by unfold lmb; rw [List.range_succ, List.map_append]; rfl
    rw [e, val_append, lmb_len, h, Nat.pow_succ, Nat.mod_mul]
    simp [val]
theorem lmb_fin {l : List UInt8} {N : Nat} (h : l.length ≤ 4 * N) : val (lmb N (valB l)) = valB l := by
  rw [val_lmb]
  refine Nat.mod_eq_of_lt (Nat.lt_of_lt_of_le (valB_lt l) ?_)
  have e : (4294967296 : Nat) ^ N = 256 ^ (4 * N) := by rw [Nat.pow_mul]
  rw [e]
  exact Nat.pow_le_pow_right (by omega) h
theorem p256 (i : Nat) : 256 ^ i = 4294967296 ^ (i / 4) * 2 ^ (8 * (i % 4)) := by
  have e1 : (256 : Nat) ^ i = 2 ^ (8 * i) := by rw [Nat.pow_mul]
  have e2 : 8 * i = 32 * (i / 4) + 8 * (i % 4) := by omega
  rw [e1, e2, Nat.pow_add, Nat.pow_mul]
/-- One byte more: its limb. -/
theorem lmb_here {x i c : Nat} (hx : x < 256 ^ i) (hc : c < 256) : x / 4294967296 ^ (i / 4) % 4294967296 < 2 ^ (8 * (i % 4)) ∧
    (256 ^ i * c + x) / 4294967296 ^ (i / 4) % 4294967296 = x / 4294967296 ^ (i / 4) % 4294967296 + 2 ^ (8 * (i % 4)) * c ∧ 2 ^ (8 * (i % 4)) * c < 4294967296 := by
  have hp : 0 < 4294967296 ^ (i / 4) := Nat.pow_pos (by omega)
  have hr : 2 ^ (8 * (i % 4)) ≤ 16777216 := by
    have : 2 ^ (8 * (i % 4)) ≤ 2 ^ 24 := Nat.pow_le_pow_right (by omega) (by omega)
    simpa using this
  rw [p256] at hx ⊢
  have h1 : x / 4294967296 ^ (i / 4) < 2 ^ (8 * (i % 4)) := Nat.div_lt_of_lt_mul hx
  have h2 : (4294967296 ^ (i / 4) * 2 ^ (8 * (i % 4)) * c + x) / 4294967296 ^ (i / 4) = 2 ^ (8 * (i % 4)) * c + x / 4294967296 ^ (i / 4) := by
    rw [Nat.mul_assoc, Nat.mul_add_div hp]
  rw [h2]
  generalize x / 4294967296 ^ (i / 4) = q at *
  have h3 : 2 ^ (8 * (i % 4)) * c ≤ 2 ^ (8 * (i % 4)) * 255 := Nat.mul_le_mul_left _ (by omega)
  generalize 2 ^ (8 * (i % 4)) * c = m at *
  generalize 2 ^ (8 * (i % 4)) = r at *
  clear hx h2 hp
  omega
/-- The other limbs stay. -/
theorem lmb_else {x i c j : Nat} (hx : x < 256 ^ i) (hc : c < 256) (hj : j ≠ i / 4) : (256 ^ i * c + x) / 4294967296 ^ j % 4294967296 = x / 4294967296 ^ j % 4294967296 := by
  rcases Nat.lt_or_gt_of_ne hj with h | h
  · have hp : 0 < 4294967296 ^ j := Nat.pow_pos (by omega)
    have e : 4294967296 ^ (i / 4) = 4294967296 ^ j * (4294967296 * 4294967296 ^ (i / 4 - j - 1)) := by
      rw [← Nat.pow_succ', ← Nat.pow_add]
      congr 1
      omega
    rw [p256, e]
    rw [show 4294967296 ^ j * (4294967296 * 4294967296 ^ (i / 4 - j - 1)) * 2 ^ (8 * (i % 4)) * c = 4294967296 ^ j * (4294967296 * (4294967296 ^ (i / 4 - j - 1) * 2 ^ (8 * (i % 4)) * c)) by simp only [Nat.mul_assoc], Nat.mul_add_div hp, Nat.mul_add_mod]
  · have h1 : 256 ^ (i + 1) ≤ 4294967296 ^ j := by
      have e1 : (4294967296 : Nat) ^ j = 256 ^ (4 * j) := by rw [Nat.pow_mul]
      rw [e1]
      exact Nat.pow_le_pow_right (by omega) (by omega)
    have h2 : 256 ^ i * c + x < 256 ^ (i + 1) := by
      rw [Nat.pow_succ]
      have : 256 ^ i * c ≤ 256 ^ i * 255 := Nat.mul_le_mul_left _ (by omega)
      generalize 256 ^ i = p at *
      omega
    rw [Nat.div_eq_of_lt (by omega), Nat.div_eq_of_lt (by omega)]
theorem bits_or_u32N (a b : Nat) (ha : a < 4294967296) (hb : b < 4294967296) : bits .u32 .or (a : Int) (b : Int) = ((a ||| b : Nat) : Int) := by
  have e : ∀ v : Nat, v < 4294967296 → (BitVec.ofInt IntKind.u32.bits (v : Int)).toNat = v := fun v hv => by
    show (BitVec.ofInt 32 (v : Int)).toNat = v
    simp; omega
  have hlt : a ||| b < 4294967296 := Nat.or_lt_two_pow (n := 32) ha hb
  unfold bits
  simp only [BitVec.toNat_or, e a ha, e b hb]
  rw [wrap_u32', Int.emod_eq_of_lt (by omega) (by omega)]
/-- A byte laid to a limb, as the code does it. -/
theorem lmb_or {x i c : Nat} (hx : x < 256 ^ i) (hc : c < 256) : bits .u32 .or ((x / 4294967296 ^ (i / 4) % 4294967296 : Nat) : Int) (IntKind.u32.wrap ((c : Int) * ((2 ^ (8 * (i % 4)) : Nat) : Int))) = (((256 ^ i * c + x) / 4294967296 ^ (i / 4) % 4294967296 : Nat) : Int) := by
  obtain ⟨h1, h2, h3⟩ := lmb_here hx hc
  rw [h2]
  generalize x / 4294967296 ^ (i / 4) % 4294967296 = q at *
  have h4 : 2 ^ (8 * (i % 4)) ≤ 16777216 := by
    have : 2 ^ (8 * (i % 4)) ≤ 2 ^ 24 := Nat.pow_le_pow_right (by omega) (by omega)
    simpa using this
  have e : ((c : Int) * ((2 ^ (8 * (i % 4)) : Nat) : Int)) = ((2 ^ (8 * (i % 4)) * c : Nat) : Int) := by rw [Int.natCast_mul, Int.mul_comm]
  rw [e, wrap_u32 (by omega), bits_or_u32N _ _ (by omega) h3]
  have := or_addN (8 * (i % 4)) c q h1
  rw [this]
/-- Is the highest byte 0? -/
def zhd (b : List UInt8) : Bool := decide (0 < b.length ∧ (b.getD 0 0).toNat = 0)
def rdV (b : List UInt8) : Nat := if zhd b = true then 0 else valB b
theorem valB_nb (b : List UInt8) : nb (valB b) ≤ b.length / 4 + 1 := by
  refine nb_lt.2 ?_
  have e : (4294967296 : Nat) ^ (b.length / 4 + 1) = 256 ^ (4 * (b.length / 4 + 1)) := by rw [Nat.pow_mul]
  rw [e]
  exact Nat.lt_of_lt_of_le (valB_lt b) (Nat.pow_le_pow_right (by omega) (by omega))
/-- A whole number at a place: the number, the place behind, what is wrong. -/
def zget (b : List UInt8) (a bits : Int) : Int × Nat × Nat :=
  if (vget b a).2.2 ≠ 0 then (0, 0, (vget b a).2.2) else
  if (max bits 0).toNat / 8 + 1 < (vget b a).1 / 2 then (0, 0, 15) else
  if b.length - (vget b a).2.1 < (vget b a).1 / 2 then (0, 0, 4) else
  if zhd ((b.take ((vget b a).2.1 + (vget b a).1 / 2)).drop (vget b a).2.1) = true ∨ (vget b a).1 = 1 then (0, 0, 2) else
  if (max bits 0).toNat < nbit (valB ((b.take ((vget b a).2.1 + (vget b a).1 / 2)).drop (vget b a).2.1)) then (0, 0, 15) else
  (mkZ (decide ((vget b a).1 % 2 = 1)) (valB ((b.take ((vget b a).2.1 + (vget b a).1 / 2)).drop (vget b a).2.1)), (vget b a).2.1 + (vget b a).1 / 2, 0)
theorem vgo_end (b : List UInt8) (a : Nat) : ∀ (f i v : Nat), (vgo b a i v f).2.2 = 0 → a + i + 1 ≤ (vgo b a i v f).2.1 ∧ (vgo b a i v f).2.1 ≤ b.length
  | 0, i, v, h => by simp [vgo] at h
  | f + 1, i, v, h => by
    rw [vgo] at h ⊢
    split
    · rename_i h1; rw [if_pos h1] at h; cases h
    rename_i h1
    rw [if_neg h1] at h
    split
    · rename_i h2; rw [if_pos h2] at h; cases h
    rename_i h2
    rw [if_neg h2] at h
    split
    · exact ⟨Nat.le_refl _, by show a + i + 1 ≤ _; omega⟩
    rename_i h3
    rw [if_neg h3] at h
    have := vgo_end b a f (i + 1) _ h
    omega
theorem vget_end {b : List UInt8} {a : Int} (h : (vget b a).2.2 = 0) : 0 ≤ a ∧ a.toNat + 1 ≤ (vget b a).2.1 ∧ (vget b a).2.1 ≤ b.length := by
  unfold vget at h ⊢
  split
  · rename_i h1; rw [if_pos h1] at h; cases h
  · rename_i h1
    rw [if_neg h1] at h
    have := vgo_end b a.toNat 10 0 0 h
    omega
theorem vgo_err (b : List UInt8) (a : Nat) : ∀ (f i v : Nat), (vgo b a i v f).2.2 ≠ 0 → (vgo b a i v f).1 = 0 ∧ (vgo b a i v f).2.1 = 0 ∧ ((vgo b a i v f).2.2 = 4 ∨ (vgo b a i v f).2.2 = 6)
  | 0, i, v, h => by simp [vgo]
  | f + 1, i, v, h => by
    rw [vgo] at h ⊢
    split
    · simp
    rename_i h1
    rw [if_neg h1] at h
    split
    · simp
    rename_i h2
    rw [if_neg h2] at h
    split
    · rename_i h3; rw [if_pos h3] at h; exact absurd rfl h
    rename_i h3
    rw [if_neg h3] at h
    exact vgo_err b a f (i + 1) _ h
theorem vget_err {b : List UInt8} {a : Int} (h : (vget b a).2.2 ≠ 0) : (vget b a).1 = 0 ∧ (vget b a).2.1 = 0 ∧ ((vget b a).2.2 = 1 ∨ (vget b a).2.2 = 4 ∨ (vget b a).2.2 = 6) := by
  unfold vget at h ⊢
  split
  · simp
  · rename_i h1
    rw [if_neg h1] at h
    have := vgo_err b a.toNat 10 0 0 h
    exact ⟨this.1, this.2.1, .inr this.2.2⟩
theorem vget_lt (b : List UInt8) (a : Int) : (vget b a).1 < 18446744073709551616 := by
  have key : ∀ (f i v : Nat), i + f = 10 → (i < 10 → v < 2 ^ (7 * i)) → (vgo b a.toNat i v f).1 < 18446744073709551616 := by
    intro f
    induction f with
    | zero => intro i v _ _; simp [vgo]
    | succ f ih =>
      intro i v hif hv
      rw [vgo]
      split
      · simp
      split
      · simp
      rename_i h2
      have hc : (b.getD (a.toNat + i) 0).toNat % 128 < 128 := Nat.mod_lt _ (by omega)
      have hn := vgo_next (v := v) ((b.getD (a.toNat + i) 0).toNat % 128) (i := i) (by omega) hc (by omega) (hv (by omega))
      split
      · exact hn.1
      · exact ih (i + 1) _ (by omega) fun h => hn.2.1 (by omega)
  unfold vget
  split
  · simp
  · exact key 10 0 0 rfl fun _ => by decide
theorem zget_ok {b : List UInt8} {a bits : Int} (h : (zget b a bits).2.2 = 0) : 0 ≤ a ∧ a.toNat + 1 ≤ (zget b a bits).2.1 ∧ (zget b a bits).2.1 ≤ b.length ∧ zb (zget b a bits).1 ≤ b.length / 4 + 1 := by
  unfold zget at h ⊢
  split
  · rename_i h1; rw [if_pos h1] at h; exact absurd h h1
  rename_i h1
  rw [if_neg h1] at h
  have hv := vget_end (b := b) (a := a) (by omega)
  split
  · rename_i h2; rw [if_pos h2] at h; cases h
  rename_i h2
  rw [if_neg h2] at h
  split
  · rename_i h3; rw [if_pos h3] at h; cases h
  rename_i h3
  rw [if_neg h3] at h
  split
  · rename_i h4; rw [if_pos h4] at h; cases h
  rename_i h4
  rw [if_neg h4] at h
  split
  · rename_i h5; rw [if_pos h5] at h; cases h
  refine ⟨hv.1, by show a.toNat + 1 ≤ (vget b a).2.1 + (vget b a).1 / 2; omega, by show (vget b a).2.1 + (vget b a).1 / 2 ≤ _; omega, ?_⟩
  have hn := valB_nb ((b.take ((vget b a).2.1 + (vget b a).1 / 2)).drop (vget b a).2.1)
  rw [List.length_drop, List.length_take] at hn
  show zb (mkZ _ _) ≤ _
  unfold zb
  rw [mkZ_abs]
  omega
theorem zget_err {b : List UInt8} {a bits : Int} (h : (zget b a bits).2.2 ≠ 0) : (zget b a bits).1 = 0 ∧ (zget b a bits).2.1 = 0 ∧ (zget b a bits).2.2 < 18 := by
  unfold zget at h ⊢
  split
  · rename_i h1
    have := vget_err h1
    simp; omega
  split
  · simp
  split
  · simp
  split
  · simp
  split
  · simp
  · rename_i h1 h2 h3 h4 h5
    rw [if_neg h1, if_neg h2, if_neg h3, if_neg h4, if_neg h5] at h
    exact absurd rfl h
/-- A quotient at a place. -/
def qget (b : List UInt8) (a bits : Int) : Rat × Nat × Nat :=
  if (zget b a bits).2.2 ≠ 0 then (0, 0, (zget b a bits).2.2) else
  if (zget b (zget b a bits).2.1 bits).2.2 ≠ 0 then (0, 0, (zget b (zget b a bits).2.1 bits).2.2) else
  if (zget b (zget b a bits).2.1 bits).1 ≤ 0 ∨ Nat.gcd (zget b (zget b a bits).2.1 bits).1.natAbs (zget b a bits).1.natAbs ≠ 1 then (0, 0, 2) else
  (mkRat (zget b a bits).1 (zget b (zget b a bits).2.1 bits).1.natAbs, (zget b (zget b a bits).2.1 bits).2.1, 0)

theorem r2_PutBox {l : List (Rat × Rat)} (hq : ∀ p ∈ l, qb 40000000 p.1 ∧ qb 40000000 p.2) (hl : l.length ≤ 1000) : C E 57 [rbD l] (.str (bxBy l)) := by
  refine CG_intro Tryz.func57 rfl (by kernel_rfl) rfl (by kernel_rfl) (by kernel_rfl) rfl ?_
  simp (disch := first | exact dd | fail) only [go_sem, seval]
  have hBt : ∀ i, i ≤ l.length → (bxBy (l.take i)).length ≤ 640000040 * 1000 := fun i hi => by
    have := (bxBy_len (l := l.take i) fun p hp => hq p (List.mem_of_mem_take hp)).1
    rw [List.length_take, Nat.min_eq_left hi] at this
    omega
  refine AL.of (fun i : Nat => i ≤ l.length) (fun i => l.length - i) (fun i => [(0, rbD l), (3, .str (bxBy (l.take i))), (4, .int .i64 i)]) (fun _ => []) 0 (Nat.zero_le _) ?_ ?_ ?_ ?_
  · simp (disch := first | exact dd | fail) only [go_sem, seval]
    try exact LeV.refl _
  · simp (disch := first | exact dd | fail) only [go_sem, seval]
  · intro x _; simp (disch := first | exact dd | fail) only [go_sem, seval]
  intro i hi
  by_cases hil : i = l.length
  · simp (disch := first | exact dd | fail) only [go_sem, seval, rbD, hil, List.take_length]
    try exact LeV.refl _
  · obtain ⟨a1, a2⟩ := hq (l.getD i (0, 0)) (getD_mem' l i _ (by omega))
    have g1 := r2_PutRat a1
    have g2 := r2_PutRat a2
    have l1 := qB_max (by omega) a1
    have l2 := qB_max (by omega) a2
    have hb := hBt i hi
    have hb2 := bxBy_take (l := l) (i := i) (by omega)
    have hb3 : (bxBy (l.take i) ++ qB (l.getD i (0, 0)).1) ++ qB (l.getD i (0, 0)).2 = bxBy (l.take (i + 1)) := by
      rw [← hb2]; unfold sB; rw [List.append_assoc]
    simp (disch := first | exact dd | fail) only [go_sem, seval, rbD, rsR, rsD]
    refine cL g1 ?_
    simp (disch := first | exact dd | fail) only [go_sem, seval]
    refine cL g2 ?_
    simp (disch := first | exact dd | fail) only [go_sem, seval, List.length_append, hb3]
    refine ⟨i + 1, by show i + 1 ≤ l.length; omega, by show l.length - (i + 1) < l.length - i; omega, ?_, ?_⟩
    · simp (disch := first | exact dd | fail) only [go_sem, seval]
      try exact LeV.refl _
    · simp (disch := first | exact dd | fail) only [go_sem, seval]
def bxOkD (l : List (Txt × Txt)) : D := .tup [.str (if (boxR l).2 = 0 then bxBy (boxR l).1 else []), .bool (decide ((boxR l).2 = 0))]
theorem claim_PutBox {l : List (Txt × Txt)} (hl : l.length < 1073741824) (ht : ∀ p ∈ l, p.1.length < 9223372036854775808 ∧ p.2.length < 9223372036854775808) : C E 25 [txD l] (bxOkD l) := by
  refine CG_intro Tryz.func25 rfl (by kernel_rfl) rfl (by kernel_rfl) (by kernel_rfl) rfl ?_
  have hP := box_Parse hl ht
  unfold bxOkD
  by_cases h : (boxR l).2 = 0
  · obtain ⟨⟨q1, q2, q3⟩, q4, q5⟩ := boxR_ok h
    have hB := putBox (l := (boxR l).1) (fun p hp => ⟨(q3 p hp).1.mono (by omega), (q3 p hp).2.mono (by omega)⟩) (by omega) (by omega)
    simp only [boxD, if_pos h] at hP
    simp (disch := first | exact dd | fail) only [go_sem, seval]
    refine cA hP ?_
    simp (disch := first | exact dd | fail) only [go_sem, seval, h]
    refine cA hB ?_
    simp (disch := first | exact dd | fail) only [go_sem, seval]
    try exact LeV.refl _
  · simp only [boxD, if_neg h] at hP
    simp (disch := first | exact dd | fail) only [go_sem, seval]
    refine cA hP ?_
    simp (disch := first | exact dd | fail) only [go_sem, seval, h]
    try exact LeV.refl _
theorem r2_BoxOk {l : List (Txt × Txt)} (hl : l.length < 1073741824) (ht : ∀ p ∈ l, p.1.length < 9223372036854775808 ∧ p.2.length < 9223372036854775808) : C E 26 [txD l] (bxOkD l) := by
  refine CG_intro Tryz.func26 rfl (by kernel_rfl) rfl (by kernel_rfl) (by kernel_rfl) rfl ?_
  have hP := ref_BoxParse hl ht
  unfold bxOkD
  by_cases h : (boxR l).2 = 0
  · obtain ⟨⟨q1, q2, q3⟩, q4, q5⟩ := boxR_ok h
    have hB := r2_PutBox (l := (boxR l).1) (fun p hp => ⟨(q3 p hp).1.mono (by omega), (q3 p hp).2.mono (by omega)⟩) (by omega)
    simp only [rboxD, if_pos h] at hP
    simp (disch := first | exact dd | fail) only [go_sem, seval]
    refine cA hP ?_
    simp (disch := first | exact dd | fail) only [go_sem, seval, h]
    refine cA hB ?_
    simp (disch := first | exact dd | fail) only [go_sem, seval]
    try exact LeV.refl _
  · simp only [rboxD, if_neg h] at hP
    simp (disch := first | exact dd | fail) only [go_sem, seval]
    refine cA hP ?_
    simp (disch := first | exact dd | fail) only [go_sem, seval, h]
    try exact LeV.refl _
/-- Where a reader stands: the place, and what is wrong. -/
abbrev Rs := Nat × Nat
def byF (b : List UInt8) (s : Rs) : Nat × Rs := if s.2 ≠ 0 then (0, s) else if b.length ≤ s.1 then (0, (s.1, 4)) else ((b.getD s.1 0).toNat, (s.1 + 1, 0))
def raF (b : List UInt8) (bits : Int) (s : Rs) : Txt × Rs := if s.2 ≠ 0 then ([], s) else (decQ (qget b s.1 bits).1, (qget b s.1 bits).2)
def prF (b : List UInt8) (bits : Int) (s : Rs) : (Txt × Txt) × Rs := (((raF b bits s).1, (raF b bits (raF b bits s).2).1), (raF b bits (raF b bits s).2).2)
def bxG (b : List UInt8) (bits : Int) : Nat → List (Txt × Txt) → Rs → List (Txt × Txt) × Rs
  | 0, acc, s => (acc, s)
  | k + 1, acc, s => if s.2 ≠ 0 then (acc, s) else bxG b bits k (acc ++ [(prF b bits s).1]) (prF b bits s).2
/-- Is it none, of the form that is asked? -/
def frm {α : Type} (ok : α → Bool) (x : α × Rs) : α × Rs := if x.2.2 = 0 ∧ ok x.1 = false then (x.1, (x.2.1, 2)) else x
def bxF (b : List UInt8) (bits : Int) (n : Nat) (s : Rs) : List (Txt × Txt) × Rs := frm (fun l => decide ((boxR l).2 = 0)) (bxG b bits n [] s)
theorem byF_err {b : List UInt8} {s : Rs} (h : s.2 ≠ 0) : byF b s = (0, s) := by unfold byF; rw [if_pos h]
theorem raF_err {b : List UInt8} {bits : Int} {s : Rs} (h : s.2 ≠ 0) : raF b bits s = ([], s) := by unfold raF; rw [if_pos h]
theorem bxG_err {b : List UInt8} {bits : Int} {s : Rs} (h : s.2 ≠ 0) (k : Nat) (acc : List (Txt × Txt)) : bxG b bits k acc s = (acc, s) := by
  cases k with
  | zero => rfl
  | succ k => rw [bxG, if_pos h]
theorem frm_err {α : Type} {ok : α → Bool} {x : α × Rs} (h : x.2.2 ≠ 0) : frm ok x = x := by unfold frm; rw [if_neg (by omega)]
theorem frm_ok {α : Type} {ok : α → Bool} {x : α × Rs} (h : ok x.1 = true) : frm ok x = x := by unfold frm; rw [if_neg (by rw [h]; simp)]
theorem frm_no {α : Type} {ok : α → Bool} {x : α × Rs} (h : x.2.2 = 0) (h2 : ok x.1 = false) : frm ok x = (x.1, (x.2.1, 2)) := by unfold frm; rw [if_pos ⟨h, h2⟩]
theorem frm_val {α : Type} (ok : α → Bool) (x : α × Rs) : (frm ok x).1 = x.1 ∧ (frm ok x).2.1 = x.2.1 := by unfold frm; split <;> exact ⟨rfl, rfl⟩
/-- A reader's place stays within the bytes, and its codes are small. -/
def RsOk (b : List UInt8) (s : Rs) : Prop := s.1 ≤ b.length ∧ s.2 < 18
theorem qget_err {b : List UInt8} {a bits : Int} (h : (qget b a bits).2.2 ≠ 0) : (qget b a bits).1 = 0 ∧ (qget b a bits).2.1 = 0 ∧ (qget b a bits).2.2 < 18 := by
  unfold qget at h ⊢
  split
  · rename_i h1
    exact ⟨rfl, rfl, (zget_err h1).2.2⟩
  split
  · rename_i h1
    exact ⟨rfl, rfl, (zget_err h1).2.2⟩
  split
  · exact ⟨rfl, rfl, by show 2 < 18; omega⟩
  · rename_i h1 h2 h3
    rw [if_neg h1, if_neg h2, if_neg h3] at h
    exact absurd rfl h
theorem qget_ok {b : List UInt8} {a bits : Int} (h : (qget b a bits).2.2 = 0) : 0 ≤ a ∧ a.toNat + 2 ≤ (qget b a bits).2.1 ∧ (qget b a bits).2.1 ≤ b.length ∧ qb (b.length / 4 + 1) (qget b a bits).1 := by
  unfold qget at h ⊢
  split
  · rename_i h1; rw [if_pos h1] at h; exact absurd h h1
  rename_i h1
  rw [if_neg h1] at h
  split
  · rename_i h2; rw [if_pos h2] at h; exact absurd h h2
  rename_i h2
  rw [if_neg h2] at h
  split
  · rename_i h3; rw [if_pos h3] at h; cases h
  rename_i h3
  have g1 := zget_ok (b := b) (a := a) (bits := bits) (by omega)
  have g2 := zget_ok (b := b) (a := ((zget b a bits).2.1 : Nat)) (bits := bits) (by omega)
  refine ⟨g1.1, by show a.toNat + 2 ≤ (zget b ((zget b a bits).2.1 : Nat) bits).2.1; omega, g2.2.2.1, ?_⟩
  have m := mk_num_le (zget b a bits).1 (d := (zget b ((zget b a bits).2.1 : Nat) bits).1.natAbs) (by omega)
  exact ⟨Nat.le_trans m.1 g1.2.2.2, Nat.le_trans m.2 g2.2.2.2⟩
theorem qget_rs (b : List UInt8) (a bits : Int) : RsOk b (qget b a bits).2 ∧ qb (b.length / 4 + 1) (qget b a bits).1 := by
  by_cases h : (qget b a bits).2.2 = 0
  · have := qget_ok h
    exact ⟨⟨this.2.2.1, by omega⟩, this.2.2.2⟩
  · have := qget_err h
    refine ⟨⟨by omega, this.2.2⟩, ?_⟩
    rw [this.1]
    exact ⟨by show zb 0 ≤ _; unfold zb; show nb 0 ≤ _; rw [nb, limbs_zero]; simp, by show nb 1 ≤ _; exact nb_lt.2 (Nat.one_lt_pow (by omega) (by omega))⟩
theorem raF_rs {b : List UInt8} {bits : Int} {s : Rs} (h : RsOk b s) : RsOk b (raF b bits s).2 := by
  unfold raF
  split
  · exact h
  · exact (qget_rs b s.1 bits).1
theorem prF_rs {b : List UInt8} {bits : Int} {s : Rs} (h : RsOk b s) : RsOk b (prF b bits s).2 := raF_rs (raF_rs h)
theorem bxG_rs {b : List UInt8} {bits : Int} : ∀ (k : Nat) (acc : List (Txt × Txt)) (s : Rs), RsOk b s → RsOk b (bxG b bits k acc s).2 ∧ (bxG b bits k acc s).1.length ≤ acc.length + k
  | 0, acc, s, h => ⟨h, Nat.le_refl _⟩
  | k + 1, acc, s, h => by
    rw [bxG]
    split
    · exact ⟨h, by show acc.length ≤ _; omega⟩
    · have := bxG_rs (bits := bits) k (acc ++ [(prF b bits s).1]) _ (prF_rs (bits := bits) h)
      rw [List.length_append, List.length_singleton] at this
      exact ⟨this.1, by omega⟩
theorem frm_rs {α : Type} {b : List UInt8} {ok : α → Bool} {x : α × Rs} (h : RsOk b x.2) : RsOk b (frm ok x).2 := by
  unfold frm
  split
  · exact ⟨h.1, by show 2 < 18; omega⟩
  · exact h
theorem bxF_rs {b : List UInt8} {bits : Int} {n : Nat} {s : Rs} (h : RsOk b s) : RsOk b (bxF b bits n s).2 ∧ (bxF b bits n s).1.length ≤ n := by
  have := bxG_rs (bits := bits) n [] s h
  unfold bxF
  rw [(frm_val _ _).1]
  exact ⟨frm_rs this.1, by simpa using this.2⟩
/-- Short enough for a text. -/
def shT (t : Txt) : Prop := t.length < 9223372036854775808
theorem decQ_sh {q : Rat} (hq : qb 40000000 q) : shT (decQ q) := by
  have h1 := hq.1
  have h2 := hq.2
  have l1 := decZ_len q.num
  have l2 := dec_len q.den
  unfold shT decQ
  split
  · omega
  · rw [List.length_append, List.length_cons]; omega
theorem qget_qb {b : List UInt8} {a bits : Int} (hb : b.length < 100000000) : qb 40000000 (qget b a bits).1 := (qget_rs b a bits).2.mono (by omega)
theorem raF_sh {b : List UInt8} {bits : Int} {s : Rs} (hb : b.length < 100000000) : shT (raF b bits s).1 := by
  unfold raF
  split
  · show 0 < _; omega
  · exact decQ_sh (qget_qb hb)
theorem prF_sh {b : List UInt8} {bits : Int} {s : Rs} (hb : b.length < 100000000) : shT (prF b bits s).1.1 ∧ shT (prF b bits s).1.2 := ⟨raF_sh hb, raF_sh hb⟩

theorem lR_lmb {l : List UInt8} {N i j : Nat} (hi : i < l.length) (hj : j < N) : (if j = i / 4 then .int .u32 (((256 ^ i * (l.getD (l.length - 1 - i) 0).toNat + loB l i) / 4294967296 ^ (i / 4) % 4294967296 : Nat) : Int) else lR (lmb N (loB l i)) j) = lR (lmb N (loB l (i + 1))) j := by
  unfold lR
  rw [lmb_at hj, loB_succ hi]
  by_cases h : j = i / 4
  · rw [if_pos h, h, lmb_at (by omega)]
  · rw [if_neg h, lmb_at hj, lmb_else (loB_lt (by omega)) (UInt8.toNat_lt _) h]
theorem lR_at {N x j : Nat} (h : j < N) : lR (lmb N x) j = .int .u32 ((x / 4294967296 ^ j % 4294967296 : Nat) : Int) := by
  unfold lR
  rw [lmb_at h]
theorem lR_z {N j : Nat} (h : j < N) {b : List UInt8} : lR (lmb N (loB b 0)) j = .int .u32 0 := by
  rw [lR_at h, loB_zero, Nat.zero_div]
  rfl
theorem LeV_nl : LeV .nils (u32s (limbs 0)) := by
  unfold u32s
  rw [limbs_zero]
  exact LeV.nils
def ndD (b : List UInt8) : D := .tup [natD (rdV b), .int .i64 (if zhd b = true then 2 else 0)]
theorem nd_no {b : List UInt8} (h : zhd b = true) : ndD b = .tup [natD 0, .int .i64 2] := by unfold ndD rdV; rw [if_pos h, if_pos h]
theorem nd_yes {b : List UInt8} (h : zhd b = false) : ndD b = .tup [natD (valB b), .int .i64 0] := by unfold ndD rdV; rw [h]; rfl
theorem nat_Read {b : List UInt8} (hb : b.length < 1000000000) : C E 197 [.str b] (ndD b) := by
  refine CG_intro Tryz.func197 rfl (by kernel_rfl) rfl (by kernel_rfl) (by kernel_rfl) rfl ?_
  by_cases h0 : b = []
  · subst h0
    have hz : zhd ([] : List UInt8) = false := rfl
    rw [nd_yes hz]
    have e : ([] : List UInt8).length = 0 := rfl
    have hc := nat_cut (l := []) (fun x hx => by cases hx) (by simp)
    simp (disch := first | exact dd | fail) only [go_sem, seval, e]
    refine AL.step ?_
    simp (disch := first | exact dd | fail) only [go_sem, seval]
    refine callC hc ?_ rfl ?_
    · simp (disch := first | exact dd | fail) only [go_sem, seval, u32s]
      try exact LesV_rows rfl fun j hj => absurd hj (by simp)
    simp (disch := first | exact dd | fail) only [go_sem, seval]
    try exact LeV.refl _
  have e0 : (b == []) = false := beq_eq_false_iff_ne.2 h0
  have hpos : 0 < b.length := List.length_pos_iff.2 h0
  have hc0 := (b.getD 0 0).toNat_lt
  by_cases h1 : (b.getD 0 0).toNat = 0
  · have hz : zhd b = true := by unfold zhd; exact decide_eq_true ⟨hpos, h1⟩
    rw [nd_no hz]
    simp (disch := first | exact dd | fail) only [go_sem, seval, e0, bne, h1]
    exact LeV.tup (LesV.cons (LeV.agg (LesV.cons LeV_nl (LesV.refl _))) (LesV.refl _))
  have hz : zhd b = false := by unfold zhd; exact decide_eq_false fun h => h1 h.2
  rw [nd_yes hz]
  obtain ⟨N, hN, hNl⟩ : ∃ N : Nat, IntKind.i64.wrap (((b.length : Int) + 3).tdiv 4) = (N : Int) ∧ b.length ≤ 4 * N ∧ N < 1000000000 := by
    refine ⟨(b.length + 3) / 4, ?_, by omega, by omega⟩
    rw [Int.tdiv_eq_ediv_of_nonneg (by omega), wrap_i64 (by omega)]; omega
  have hc := nat_cut (l := lmb N (valB b)) (lmb_lows _ _) (by rw [lmb_len]; omega)
  rw [lmb_fin (by omega)] at hc
  have hlen := lmb_len N (valB b)
  simp (disch := first | exact dd | fail) only [go_sem, seval, e0, bne, hN]
  refine ⟨by omega, by omega, by omega, ?_⟩
  refine AL.of (fun i : Nat => i ≤ b.length) (fun i => b.length - i) (fun i => [(0, .str b), (2, .ad 0 0), (4, .sl 1 0 0 N), (20, .int .i64 b.length), (21, .int .i64 i)]) (fun i => [(1, .row false 0 false 1 N (lR (lmb N (loB b i)))), (0, .var true 1 (.agg [.nils]))]) 0 (Nat.zero_le _) ?_ ?_ ?_ ?_
  · simp (disch := first | exact dd | fail) only [go_sem, seval]
    try exact LeV.refl _
  · simp (disch := first | exact dd | fail) only [go_sem, seval]
    exact fun j hj => Le.of_eq (lR_z hj).symm
  · intro x _; simp (disch := first | exact dd | fail) only [go_sem, seval]
  intro i hi
  by_cases hil : i = b.length
  · simp (disch := first | exact dd | fail) only [go_sem, seval, hil]
    refine callC hc ?_ rfl ?_
    · simp (disch := first | exact dd | fail) only [go_sem, seval, u32s]
      exact LesV_rows hlen.symm fun j hj => by rw [loB_all]; rfl
    simp (disch := first | exact dd | fail) only [go_sem, seval]
    try exact LeV.refl _
  · have e4 : IntKind.i64.wrap ((i : Int).tdiv 4) = ((i / 4 : Nat) : Int) := by
      rw [Int.tdiv_eq_ediv_of_nonneg (by omega), wrap_i64 (by omega)]; omega
    have e5 : (i : Int).tmod 4 = ((i % 4 : Nat) : Int) := by
      rw [Int.tmod_eq_emod_of_nonneg (by omega)]; omega
    have e6 : ((b.length : Int) - 1 - (i : Int)).toNat = b.length - 1 - i := by omega
    have e7 : (((8 : Int) * ((i % 4 : Nat) : Int)).toNat) = 8 * (i % 4) := by omega
    have em : min (8 * (i % 4)) 32 = 8 * (i % 4) := by omega
    have e8 := lR_at (N := N) (x := loB b i) (j := i / 4) (by omega)
    have hor := lmb_or (loB_lt (l := b) (i := i) (by omega)) (UInt8.toNat_lt (b.getD (b.length - 1 - i) 0))
    have hcc := UInt8.toNat_lt (b.getD (b.length - 1 - i) 0)
    have hlr := fun j hj => lR_lmb (l := b) (N := N) (i := i) (j := j) (by omega) hj
    generalize hq : (b.getD (b.length - 1 - i) 0).toNat = c at *
    simp (disch := first | exact dd | fail) only [go_sem, seval, e4, e5, e6, hq, e7, em, e8, hor]
    refine ⟨i + 1, by show i + 1 ≤ b.length; omega, by show b.length - (i + 1) < b.length - i; omega, ?_, ?_⟩
    · simp (disch := first | exact dd | fail) only [go_sem, seval]
      try exact LeV.refl _
    · simp (disch := first | exact dd | fail) only [go_sem, seval]
      exact fun j hj => Le.of_eq (hlr j hj)
def rndD (b : List UInt8) : D := .tup [if zhd b = true then .nils else nD (valB b), .bool (!zhd b)]
theorem ref_NatRead {b : List UInt8} (hb : b.length < 1000000000) : C E 157 [.str b] (rndD b) := by
  refine CG_intro Tryz.func157 rfl (by kernel_rfl) rfl (by kernel_rfl) (by kernel_rfl) rfl ?_
  unfold rndD
  by_cases h1 : 0 < b.length ∧ (b.getD 0 0).toNat = 0
  · have hz : zhd b = true := by unfold zhd; exact decide_eq_true h1
    obtain ⟨h1, h2⟩ := h1
    rw [hz]
    simp (disch := first | exact dd | fail) only [go_sem, seval, h2]
    try exact LeV.refl _
  have hz : zhd b = false := by unfold zhd; exact decide_eq_false h1
  have hc0 := (b.getD 0 0).toNat_lt
  rw [hz]
  by_cases hb0 : b = []
  · subst hb0
    have e : ([] : List UInt8).length = 0 := rfl
    have hc := ref_trim (l := [0]) (fun x hx => by simp at hx; omega) (by simp)
    simp (disch := first | exact dd | fail) only [go_sem, seval, e]
    refine AL.step ?_
    simp (disch := first | exact dd | fail) only [go_sem, seval]
    refine callC hc ?_ rfl ?_
    · simp (disch := first | exact dd | fail) only [go_sem, seval, u32s]
      exact LesV_rows rfl fun j hj => by
        obtain rfl : j = 0 := by simp at hj; omega
        rfl
    simp (disch := first | exact dd | fail) only [go_sem, seval]
    try exact LeV.refl _
  have hb1 : 0 < b.length := List.length_pos_iff.2 hb0
  have hb2 : (b.getD 0 0).toNat ≠ 0 := fun h => h1 ⟨hb1, h⟩
  obtain ⟨N, hN, hNl⟩ : ∃ N : Nat, IntKind.i64.wrap (((b.length : Int)).tdiv 4) = (N : Int) - 1 ∧ b.length ≤ 4 * N ∧ N < 1000000000 ∧ 0 < N := by
    refine ⟨b.length / 4 + 1, ?_, by omega, by omega, by omega⟩
    rw [Int.tdiv_eq_ediv_of_nonneg (by omega), wrap_i64 (by omega)]; omega
  have hN1 : (N : Int) - 1 + 1 = (N : Int) := by omega
  have hc := ref_trim (l := lmb N (valB b)) (lmb_lows _ _) (by rw [lmb_len]; omega)
  rw [lmb_fin (by omega)] at hc
  have hlen := lmb_len N (valB b)
  simp (disch := first | exact dd | fail) only [go_sem, seval, hN, hN1]
  refine ⟨by omega, by omega, by omega, ?_⟩
  refine AL.of (fun i : Nat => i ≤ b.length) (fun i => b.length - i) (fun i => [(0, .str b), (4, .sl 0 0 0 N), (5, .int .i64 i)]) (fun i => [(0, .row false 0 false 1 N (lR (lmb N (loB b i))))]) 0 (Nat.zero_le _) ?_ ?_ ?_ ?_
  · simp (disch := first | exact dd | fail) only [go_sem, seval]
    try exact LeV.refl _
  · simp (disch := first | exact dd | fail) only [go_sem, seval]
    exact fun j hj => Le.of_eq (lR_z hj).symm
  · intro x _; simp (disch := first | exact dd | fail) only [go_sem, seval]
  intro i hi
  by_cases hil : i = b.length
  · simp (disch := first | exact dd | fail) only [go_sem, seval, hil]
    refine callC hc ?_ rfl ?_
    · simp (disch := first | exact dd | fail) only [go_sem, seval, u32s]
      exact LesV_rows hlen.symm fun j hj => by rw [loB_all]; rfl
    simp (disch := first | exact dd | fail) only [go_sem, seval]
    try exact LeV.refl _
  · have e4 : IntKind.i64.wrap ((i : Int).tdiv 4) = ((i / 4 : Nat) : Int) := by
      rw [Int.tdiv_eq_ediv_of_nonneg (by omega), wrap_i64 (by omega)]; omega
    have e5 : (i : Int).tmod 4 = ((i % 4 : Nat) : Int) := by
      rw [Int.tmod_eq_emod_of_nonneg (by omega)]; omega
    have e6 : ((b.length : Int) - 1 - (i : Int)).toNat = b.length - 1 - i := by omega
    have e7 : (((8 : Int) * ((i % 4 : Nat) : Int)).toNat) = 8 * (i % 4) := by omega
    have em : min (8 * (i % 4)) 32 = 8 * (i % 4) := by omega
    have e8 := lR_at (N := N) (x := loB b i) (j := i / 4) (by omega)
    have hor := lmb_or (loB_lt (l := b) (i := i) (by omega)) (UInt8.toNat_lt (b.getD (b.length - 1 - i) 0))
    have hcc := UInt8.toNat_lt (b.getD (b.length - 1 - i) 0)
    have hlr := fun j hj => lR_lmb (l := b) (N := N) (i := i) (j := j) (by omega) hj
    generalize hq : (b.getD (b.length - 1 - i) 0).toNat = c at *
    simp (disch := first | exact dd | fail) only [go_sem, seval, e4, e5, e6, hq, e7, em, e8, hor]
    refine ⟨i + 1, by show i + 1 ≤ b.length; omega, by show b.length - (i + 1) < b.length - i; omega, ?_, ?_⟩
    · simp (disch := first | exact dd | fail) only [go_sem, seval]
      try exact LeV.refl _
    · simp (disch := first | exact dd | fail) only [go_sem, seval]
      exact fun j hj => Le.of_eq (hlr j hj)
def zgD (x : Int × Nat × Nat) : D := .tup [zD x.1, .int .i64 x.2.1, .int .i64 x.2.2]
def izgD (x : Int × Nat × Nat) : D := .tup [iD x.1, .int .i64 x.2.1, .int .i64 x.2.2]
theorem LeV_zg0 (n m : Int) : LeV (.tup [.agg [.nils, .bool false], .int .i64 n, .int .i64 m]) (.tup [zD 0, .int .i64 n, .int .i64 m]) :=
  LeV.tup (LesV.cons (LeV.agg (LesV.cons LeV_nl (LesV.refl _))) (LesV.refl _))
theorem LeV_iz0 (n m : Int) : LeV (.tup [.agg [.bool false, .nils], .int .i64 n, .int .i64 m]) (.tup [iD 0, .int .i64 n, .int .i64 m]) :=
  LeV.tup (LesV.cons (LeV.agg (LesV.cons (LeV.refl _) (LesV.cons LeV_nl LesV.nil))) (LesV.refl _))
theorem vint_GetInt {b : List UInt8} {a bits : Int} (ha : -9223372036854775808 ≤ a ∧ a ≤ 9223372036854775807) (hbits : -9223372036854775808 ≤ bits ∧ bits ≤ 9223372036854775807) (hb : b.length < 1000000000) : C E 181 [.str b, .int .i64 a, .int .i64 bits] (zgD (zget b a bits)) := by
  refine CG_intro Tryz.func181 rfl (by kernel_rfl) rfl (by kernel_rfl) (by kernel_rfl) rfl ?_
  have hG := vint_Get b a ha (by omega)
  have hlt := vget_lt b a
  have her := vget_err (b := b) (a := a)
  have hen := vget_end (b := b) (a := a)
  have hr : zget b a bits = zget b a bits := rfl
  conv at hr => rhs; unfold zget
  obtain ⟨B, hB, hBn, hBl⟩ : ∃ B : Nat, max bits 0 = (B : Int) ∧ (max bits 0).toNat = B ∧ B ≤ 9223372036854775807 := ⟨(max bits 0).toNat, by omega, rfl, by omega⟩
  rw [hBn] at hr
  generalize zget b a bits = res at *
  generalize vget b a = x at *
  obtain ⟨v, p, c⟩ := x
  simp only at hlt her hen hr
  unfold vgD at hG
  simp (disch := first | exact dd | fail) only [go_sem, seval, hB]
  refine cA hG ?_
  have eB : IntKind.i64.wrap ((B : Int).tdiv 8) = ((B / 8 : Nat) : Int) := by
    rw [Int.tdiv_eq_ediv_of_nonneg (by omega), wrap_i64 (by omega)]; omega
  have ev2 : IntKind.u64.wrap ((v : Int).tdiv 2) = ((v / 2 : Nat) : Int) := by
    rw [Int.tdiv_eq_ediv_of_nonneg (by omega), wrap_u64 (by omega)]; omega
  by_cases h1 : c = 0
  case neg =>
    rw [if_pos h1] at hr
    subst hr
    have := her h1
    unfold zgD
    simp (disch := first | exact dd | fail) only [go_sem, seval, ev2]
    exact LeV_zg0 _ _
  rw [if_neg (by omega)] at hr
  have hen := hen h1
  clear her
  by_cases h2 : B / 8 + 1 < v / 2
  case pos =>
    rw [if_pos h2] at hr
    subst hr
    unfold zgD
    simp (disch := first | exact dd | fail) only [go_sem, seval, ev2, eB]
    exact LeV_zg0 _ _
  rw [if_neg h2] at hr
  by_cases h3 : b.length - p < v / 2
  case pos =>
    rw [if_pos h3] at hr
    subst hr
    unfold zgD
    simp (disch := first | exact dd | fail) only [go_sem, seval, ev2, eB]
    exact LeV_zg0 _ _
  rw [if_neg h3] at hr
  have es : ((p : Int) + ((v / 2 : Nat) : Int)).toNat = p + v / 2 := by omega
  have hSl : ((b.take (p + v / 2)).drop p).length < 1000000000 := by rw [List.length_drop, List.length_take]; omega
  have hR := nat_Read hSl
  generalize hSe : (b.take (p + v / 2)).drop p = S at *
  simp (disch := first | exact dd | fail) only [go_sem, seval, ev2, eB, es, hSe]
  refine cA hR ?_
  have hnb := valB_nb S
  have hbt := nbit_nb (valB S)
  by_cases h4 : zhd S = true
  case pos =>
    rw [if_pos (.inl h4)] at hr
    subst hr
    rw [nd_no h4]
    unfold zgD
    simp (disch := first | exact dd | fail) only [go_sem, seval]
    exact LeV_zg0 _ _
  have h4 : zhd S = false := by simpa using h4
  rw [nd_yes h4]
  by_cases h5 : v = 1
  case pos =>
    rw [if_pos (.inr h5)] at hr
    subst hr
    unfold zgD
    simp (disch := first | exact dd | fail) only [go_sem, seval]
    exact LeV_zg0 _ _
  rw [if_neg (by rw [h4]; simp [h5])] at hr
  have hBt := nat_Bits (n := valB S) (by omega)
  simp (disch := first | exact dd | fail) only [go_sem, seval]
  refine cA hBt ?_
  by_cases h6 : B < nbit (valB S)
  case pos =>
    rw [if_pos h6] at hr
    subst hr
    unfold zgD
    simp (disch := first | exact dd | fail) only [go_sem, seval]
    exact LeV_zg0 _ _
  rw [if_neg h6] at hr
  subst hr
  have em : (v : Int).tmod 2 = ((v % 2 : Nat) : Int) := by
    rw [Int.tmod_eq_emod_of_nonneg (by omega)]; omega
  have hF := whole_From (decide (v % 2 = 1)) (n := valB S) (by omega)
  unfold zgD
  by_cases h7 : v % 2 = 1
  · rw [decide_eq_true h7] at hF ⊢
    simp (disch := first | exact dd | fail) only [go_sem, seval, em]
    refine cA hF ?_
    simp (disch := first | exact dd | fail) only [go_sem, seval]
    try exact LeV.refl _
  · rw [decide_eq_false h7] at hF ⊢
    simp (disch := first | exact dd | fail) only [go_sem, seval, em]
    refine cA hF ?_
    simp (disch := first | exact dd | fail) only [go_sem, seval]
    try exact LeV.refl _
theorem r2_GetInt {b : List UInt8} {a bits : Int} (ha : -9223372036854775808 ≤ a ∧ a ≤ 9223372036854775807) (hbits : -9223372036854775808 ≤ bits ∧ bits ≤ 9223372036854775807) (hb : b.length < 1000000000) : C E 114 [.str b, .int .i64 a, .int .i64 bits] (izgD (zget b a bits)) := by
  refine CG_intro Tryz.func114 rfl (by kernel_rfl) rfl (by kernel_rfl) (by kernel_rfl) rfl ?_
  have hG := r2_Get b a ha (by omega)
  have hlt := vget_lt b a
  have her := vget_err (b := b) (a := a)
  have hen := vget_end (b := b) (a := a)
  have hr : zget b a bits = zget b a bits := rfl
  conv at hr => rhs; unfold zget
  obtain ⟨B, hB, hBn, hBl⟩ : ∃ B : Nat, max bits 0 = (B : Int) ∧ (max bits 0).toNat = B ∧ B ≤ 9223372036854775807 := ⟨(max bits 0).toNat, by omega, rfl, by omega⟩
  rw [hBn] at hr
  generalize zget b a bits = res at *
  generalize vget b a = x at *
  obtain ⟨v, p, c⟩ := x
  simp only at hlt her hen hr
  unfold vgD at hG
  simp (disch := first | exact dd | fail) only [go_sem, seval]
  refine cA hG ?_
  have eB : IntKind.i64.wrap ((B : Int).tdiv 8) = ((B / 8 : Nat) : Int) := by
    rw [Int.tdiv_eq_ediv_of_nonneg (by omega), wrap_i64 (by omega)]; omega
  have ev2 : IntKind.u64.wrap ((v : Int).tdiv 2) = ((v / 2 : Nat) : Int) := by
    rw [Int.tdiv_eq_ediv_of_nonneg (by omega), wrap_u64 (by omega)]; omega
  by_cases h1 : c = 0
  case neg =>
    rw [if_pos h1] at hr
    subst hr
    have := her h1
    unfold izgD
    simp (disch := first | exact dd | fail) only [go_sem, seval, ev2]
    exact LeV_iz0 _ _
  rw [if_neg (by omega)] at hr
  have hen := hen h1
  clear her
  by_cases h2 : B / 8 + 1 < v / 2
  case pos =>
    rw [if_pos h2] at hr
    subst hr
    unfold izgD
    simp (disch := first | exact dd | fail) only [go_sem, seval, hB, ev2, eB]
    exact LeV_iz0 _ _
  rw [if_neg h2] at hr
  by_cases h3 : b.length - p < v / 2
  case pos =>
    rw [if_pos h3] at hr
    subst hr
    unfold izgD
    simp (disch := first | exact dd | fail) only [go_sem, seval, hB, ev2, eB]
    exact LeV_iz0 _ _
  rw [if_neg h3] at hr
  have es : ((p : Int) + ((v / 2 : Nat) : Int)).toNat = p + v / 2 := by omega
  have hSl : ((b.take (p + v / 2)).drop p).length < 1000000000 := by rw [List.length_drop, List.length_take]; omega
  have hS0 : v / 2 = 0 → zhd ((b.take (p + v / 2)).drop p) = false := fun h => by
    unfold zhd
    exact decide_eq_false fun hh => by
      have := hh.1
      rw [List.length_drop, List.length_take] at this
      omega
  have hR := ref_NatRead hSl
  generalize hSe : (b.take (p + v / 2)).drop p = S at *
  simp (disch := first | exact dd | fail) only [go_sem, seval, hB, ev2, eB, es, hSe]
  have hnb := valB_nb S
  have hbt := nbit_nb (valB S)
  by_cases h4 : zhd S = true
  case pos =>
    rw [if_pos (.inl h4)] at hr
    subst hr
    unfold rndD at hR
    rw [h4] at hR
    simp only [if_true, Bool.not_true] at hR
    refine cA hR ?_
    unfold izgD
    simp (disch := first | exact dd | fail) only [go_sem, seval]
    exact LeV_iz0 _ _
  have h4 : zhd S = false := by simpa using h4
  unfold rndD at hR
  rw [h4] at hR
  simp only [Bool.false_eq_true, if_false, Bool.not_false] at hR
  refine cA hR ?_
  have em : (v : Int).tmod 2 = ((v % 2 : Nat) : Int) := by
    rw [Int.tmod_eq_emod_of_nonneg (by omega)]; omega
  by_cases h5 : v = 1
  case pos =>
    rw [if_pos (.inr h5)] at hr
    subst hr
    subst h5
    unfold izgD
    simp (disch := first | exact dd | fail) only [go_sem, seval, em]
    exact LeV_iz0 _ _
  rw [if_neg (by rw [h4]; simp [h5])] at hr
  have hBt := ref_Bits (n := valB S) (by omega)
  have hF := ref_IntFrom (decide (v % 2 = 1)) (n := valB S) (by omega)
  have pre : ∀ {Q : Prop}, (v / 2 = 0 → v % 2 = 0 → Q) → (0 < v / 2 → Q) → Q := fun {Q} q1 q2 => by
    by_cases h : v / 2 = 0
    · exact q1 h (by omega)
    · exact q2 (by omega)
  refine pre (fun k1 k2 => ?_) (fun k1 => ?_)
  all_goals
    simp (disch := first | exact dd | fail) only [go_sem, seval, em]
    refine cA hBt ?_
    by_cases h6 : B < nbit (valB S)
    case pos =>
      rw [if_pos h6] at hr
      subst hr
      unfold izgD
      simp (disch := first | exact dd | fail) only [go_sem, seval]
      exact LeV_iz0 _ _
    rw [if_neg h6] at hr
    subst hr
    unfold izgD
    by_cases h7 : v % 2 = 1
    · rw [decide_eq_true h7] at hF ⊢
      first
      | (exfalso; omega)
      | (simp (disch := first | exact dd | fail) only [go_sem, seval, em]
         refine cA hF ?_
         simp (disch := first | exact dd | fail) only [go_sem, seval]
         try exact LeV.refl _)
    · rw [decide_eq_false h7] at hF ⊢
      simp (disch := first | exact dd | fail) only [go_sem, seval, em]
      refine cA hF ?_
      simp (disch := first | exact dd | fail) only [go_sem, seval]
      try exact LeV.refl _
theorem rat_New {n d : Int} (hn : zb n < 500000000) (hd : zb d < 500000000) (h0 : 0 < d) : C E 137 [zD n, zD d] (.tup [qD (mkRat n d.natAbs), .bool true]) := by
  refine CG_intro Tryz.func137 rfl (by kernel_rfl) rfl (by kernel_rfl) (by kernel_rfl) rfl ?_
  unfold zb at hn hd
  have hS := whole_Sign (z := d) (by omega)
  have hA := whole_Abs d
  have hL := rat_least (n := n) (d := d.natAbs) hn hd
  rw [dOf_pos (by omega)] at hL
  have hs : sgI d 0 = 1 := sgI_gt h0
  simp (disch := first | exact dd | fail) only [go_sem, seval]
  refine cA hS ?_
  simp (disch := first | exact dd | fail) only [go_sem, seval, hs]
  refine cA hS ?_
  simp (disch := first | exact dd | fail) only [go_sem, seval, hs]
  refine cL hA ?_
  simp (disch := first | exact dd | fail) only [go_sem, seval]
  refine cL hL ?_
  simp (disch := first | exact dd | fail) only [go_sem, seval]
  try exact LeV.refl _
theorem rat_New0 {n : Int} (hn : zb n < 500000000) : C E 137 [zD n, zD 0] (.tup [qD 0, .bool false]) := by
  refine CG_intro Tryz.func137 rfl (by kernel_rfl) rfl (by kernel_rfl) (by kernel_rfl) rfl ?_
  have hS := whole_Sign (z := 0) (by show nb 0 < _; rw [nb, limbs_zero]; simp)
  have hs : sgI 0 0 = 0 := sgI_eq 0
  simp (disch := first | exact dd | fail) only [go_sem, seval]
  refine cA hS ?_
  simp (disch := first | exact dd | fail) only [go_sem, seval, hs]
  exact LeV.tup (LesV.cons LeV_q0' (LesV.refl _))
theorem rat_NewN {n d : Int} (hn : zb n < 500000000) (hd : zb d < 500000000) (h0 : d < 0) : C E 137 [zD n, zD d] (.tup [qD (mkRat (-n) d.natAbs), .bool true]) := by
  refine CG_intro Tryz.func137 rfl (by kernel_rfl) rfl (by kernel_rfl) (by kernel_rfl) rfl ?_
  have hN := whole_Neg (z := n) (by omega)
  unfold zb at hn hd
  have hS := whole_Sign (z := d) (by omega)
  have hA := whole_Abs d
  have hL := rat_least (n := -n) (d := d.natAbs) (by unfold zb; rw [Int.natAbs_neg]; exact hn) hd
  rw [dOf_pos (by omega)] at hL
  have hs : sgI d 0 = -1 := sgI_lt h0
  simp (disch := first | exact dd | fail) only [go_sem, seval]
  refine cA hS ?_
  simp (disch := first | exact dd | fail) only [go_sem, seval, hs]
  refine cA hS ?_
  simp (disch := first | exact dd | fail) only [go_sem, seval, hs]
  refine cA hN ?_
  simp (disch := first | exact dd | fail) only [go_sem, seval]
  refine cL hA ?_
  simp (disch := first | exact dd | fail) only [go_sem, seval]
  refine cL hL ?_
  simp (disch := first | exact dd | fail) only [go_sem, seval]
  try exact LeV.refl _
/-- What GetRat gives; of a fault the number is not told. -/
def qgD (x : Rat × Nat × Nat) : D := .tup [qD x.1, .int .i64 x.2.1, .int .i64 x.2.2]
def rr00 : D := .agg [.bool false, .nils, .nils]
def rqgD (x : Rat × Nat × Nat) : D := .tup [if x.2.2 = 0 then rqD x.1 else rr00, .int .i64 x.2.1, .int .i64 x.2.2]
theorem LeV_qg0 (n m : Int) : LeV (.tup [.agg [.nils, .bool false, .nils], .int .i64 n, .int .i64 m]) (.tup [qD 0, .int .i64 n, .int .i64 m]) :=
  LeV.tup (LesV.cons (LeV.agg (LesV.cons LeV_nl (LesV.cons (LeV.refl _) (LesV.cons LeV_nl LesV.nil)))) (LesV.refl _))
theorem mk_den_ne {n : Int} {d : Nat} (hd : d ≠ 0) : ((mkRat n d).den = d ↔ d.gcd n.natAbs = 1) := by
  have h := (mk_parts n d hd).2.2
  rw [h]
  have hg : 0 < d.gcd n.natAbs := Nat.gcd_pos_of_pos_left _ (by omega)
  have hdv : d.gcd n.natAbs ∣ d := Nat.gcd_dvd_left _ _
  obtain ⟨k, hk⟩ := hdv
  generalize d.gcd n.natAbs = g at *
  subst hk
  rw [Nat.mul_div_cancel_left _ hg]
  constructor
  · intro h
    rcases Nat.eq_zero_or_pos k with hk | hk
    · subst hk; simp at hd
    · have : 1 * k = g * k := by omega
      exact (Nat.eq_of_mul_eq_mul_right hk this).symm
  · intro h; subst h; omega
theorem vint_GetRat {b : List UInt8} {a bits : Int} (ha : -9223372036854775808 ≤ a ∧ a ≤ 9223372036854775807) (hbits : -9223372036854775808 ≤ bits ∧ bits ≤ 9223372036854775807) (hb : b.length < 100000000) : C E 156 [.str b, .int .i64 a, .int .i64 bits] (qgD (qget b a bits)) := by
  refine CG_intro Tryz.func156 rfl (by kernel_rfl) rfl (by kernel_rfl) (by kernel_rfl) rfl ?_
  have hG := vint_GetInt (b := b) ha hbits (by omega)
  have hok := zget_ok (b := b) (a := a) (bits := bits)
  have her := zget_err (b := b) (a := a) (bits := bits)
  have hr : qget b a bits = qget b a bits := rfl
  conv at hr => rhs; unfold qget
  generalize qget b a bits = res at *
  generalize zget b a bits = x at *
  obtain ⟨n, p, c⟩ := x
  simp only at hok her hr
  unfold zgD at hG
  simp (disch := first | exact dd | fail) only [go_sem, seval]
  refine cA hG ?_
  by_cases h1 : c = 0
  case neg =>
    rw [if_pos h1] at hr
    subst hr
    have := her h1
    unfold qgD
    simp (disch := first | exact dd | fail) only [go_sem, seval]
    exact LeV_qg0 _ _
  rw [if_neg (by omega)] at hr
  have hok := hok h1
  clear her
  have hG2 := vint_GetInt (b := b) (a := (p : Int)) (by omega) hbits (by omega)
  have hok2 := zget_ok (b := b) (a := (p : Int)) (bits := bits)
  have her2 := zget_err (b := b) (a := (p : Int)) (bits := bits)
  generalize zget b p bits = x at *
  obtain ⟨d, p2, c2⟩ := x
  simp only at hok2 her2 hr
  unfold zgD at hG2
  simp (disch := first | exact dd | fail) only [go_sem, seval]
  refine cA hG2 ?_
  by_cases h2 : c2 = 0
  case neg =>
    rw [if_pos h2] at hr
    subst hr
    have := her2 h2
    unfold qgD
    simp (disch := first | exact dd | fail) only [go_sem, seval]
    exact LeV_qg0 _ _
  rw [if_neg (by omega)] at hr
  have hok2 := hok2 h2
  clear her2
  have zn : zb n < 100000000 := by omega
  have zd : zb d < 100000000 := by omega
  rcases Int.lt_trichotomy d 0 with h3 | h3 | h3
  · rw [if_pos (.inl (by omega))] at hr
    subst hr
    have hN := rat_NewN (n := n) (d := d) (by omega) (by omega) h3
    have hle := mk_num_le (-n) (d := d.natAbs) (by omega)
    have hq : qs (mkRat (-n) d.natAbs) := ⟨Nat.lt_of_le_of_lt hle.1 (by unfold zb at zn ⊢; rw [Int.natAbs_neg]; omega), Nat.lt_of_le_of_lt hle.2 zd⟩
    have hD := rat_Den hq
    have hC := whole_Cmp (a := ((mkRat (-n) d.natAbs).den : Int)) (b := d) (by rw [Int.natAbs_natCast]; have := hq.2; omega) (by unfold zb at zd; omega)
    have hs : sgI ((mkRat (-n) d.natAbs).den : Int) d = 1 := sgI_gt (by omega)
    unfold qgD
    generalize mkRat (-n) d.natAbs = q at *
    simp (disch := first | exact dd | fail) only [go_sem, seval]
    refine cA hN ?_
    simp (disch := first | exact dd | fail) only [go_sem, seval]
    refine cL hD ?_
    simp (disch := first | exact dd | fail) only [go_sem, seval]
    refine cL hC ?_
    simp (disch := first | exact dd | fail) only [go_sem, seval, hs]
    exact LeV_qg0 _ _
  · rw [if_pos (.inl (by omega))] at hr
    subst hr
    subst h3
    have hN := rat_New0 (n := n) (by omega)
    unfold qgD
    simp (disch := first | exact dd | fail) only [go_sem, seval]
    refine cA hN ?_
    simp (disch := first | exact dd | fail) only [go_sem, seval]
    exact LeV_qg0 _ _
  · have hN := rat_New (n := n) (d := d) (by omega) (by omega) h3
    have hle := mk_num_le n (d := d.natAbs) (by omega)
    have hq : qs (mkRat n d.natAbs) := ⟨Nat.lt_of_le_of_lt hle.1 (by omega), Nat.lt_of_le_of_lt hle.2 zd⟩
    have hD := rat_Den hq
    have hC := whole_Cmp (a := ((mkRat n d.natAbs).den : Int)) (b := d) (by rw [Int.natAbs_natCast]; have := hq.2; omega) (by unfold zb at zd; omega)
    have hg := mk_den_ne (n := n) (d := d.natAbs) (by omega)
    by_cases h4 : d.natAbs.gcd n.natAbs = 1
    · rw [if_neg (by omega)] at hr
      subst hr
      have hs : sgI ((mkRat n d.natAbs).den : Int) d = 0 := by
        rw [show ((mkRat n d.natAbs).den : Int) = d by rw [hg.2 h4]; omega]
        exact sgI_eq d
      unfold qgD
      generalize mkRat n d.natAbs = q at *
      simp (disch := first | exact dd | fail) only [go_sem, seval]
      refine cA hN ?_
      simp (disch := first | exact dd | fail) only [go_sem, seval]
      refine cL hD ?_
      simp (disch := first | exact dd | fail) only [go_sem, seval]
      refine cL hC ?_
      simp (disch := first | exact dd | fail) only [go_sem, seval, hs]
      try exact LeV.refl _
    · rw [if_pos (.inr h4)] at hr
      subst hr
      have hs : (sgI ((mkRat n d.natAbs).den : Int) d == 0) = false := by
        rw [beq_eq_false_iff_ne]
        have := sgI_cases ((mkRat n d.natAbs).den : Int) d
        have h5 : ¬ (mkRat n d.natAbs).den = d.natAbs := fun e => h4 (hg.1 e)
        omega
      unfold qgD
      generalize mkRat n d.natAbs = q at *
      simp (disch := first | exact dd | fail) only [go_sem, seval]
      refine cA hN ?_
      simp (disch := first | exact dd | fail) only [go_sem, seval]
      refine cL hD ?_
      simp (disch := first | exact dd | fail) only [go_sem, seval]
      refine cL hC ?_
      simp (disch := first | exact dd | fail) only [go_sem, seval, hs, bne]
      exact LeV_qg0 _ _
theorem r2_GetRat {b : List UInt8} {a bits : Int} (ha : -9223372036854775808 ≤ a ∧ a ≤ 9223372036854775807) (hbits : -9223372036854775808 ≤ bits ∧ bits ≤ 9223372036854775807) (hb : b.length < 100000000) : C E 76 [.str b, .int .i64 a, .int .i64 bits] (rqgD (qget b a bits)) := by
  refine CG_intro Tryz.func76 rfl (by kernel_rfl) rfl (by kernel_rfl) (by kernel_rfl) rfl ?_
  have hG := r2_GetInt (b := b) ha hbits (by omega)
  have hok := zget_ok (b := b) (a := a) (bits := bits)
  have her := zget_err (b := b) (a := a) (bits := bits)
  have hr : qget b a bits = qget b a bits := rfl
  conv at hr => rhs; unfold qget
  generalize qget b a bits = res at *
  generalize zget b a bits = x at *
  obtain ⟨n, p, c⟩ := x
  simp only at hok her hr
  unfold izgD at hG
  simp (disch := first | exact dd | fail) only [go_sem, seval]
  refine cA hG ?_
  by_cases h1 : c = 0
  case neg =>
    rw [if_pos h1] at hr
    subst hr
    have := her h1
    unfold rqgD rr00
    simp (disch := first | exact dd | fail) only [go_sem, seval, h1]
    try exact LeV.refl _
  rw [if_neg (by omega)] at hr
  have hok := hok h1
  clear her
  have hG2 := r2_GetInt (b := b) (a := (p : Int)) (by omega) hbits (by omega)
  have hok2 := zget_ok (b := b) (a := (p : Int)) (bits := bits)
  have her2 := zget_err (b := b) (a := (p : Int)) (bits := bits)
  generalize zget b p bits = x at *
  obtain ⟨d, p2, c2⟩ := x
  simp only at hok2 her2 hr
  unfold izgD at hG2
  simp (disch := first | exact dd | fail) only [go_sem, seval]
  refine cA hG2 ?_
  by_cases h2 : c2 = 0
  case neg =>
    rw [if_pos h2] at hr
    subst hr
    have := her2 h2
    unfold rqgD rr00
    simp (disch := first | exact dd | fail) only [go_sem, seval, h2]
    try exact LeV.refl _
  rw [if_neg (by omega)] at hr
  have hok2 := hok2 h2
  clear her2
  have zn : zb n < 50000000 := by omega
  have zd : zb d < 50000000 := by omega
  have hS := ref_Sign (z := d) (by omega)
  simp (disch := first | exact dd | fail) only [go_sem, seval, iD]
  refine cA hS ?_
  by_cases h3 : d ≤ 0
  · rw [if_pos (.inl (by omega))] at hr
    subst hr
    have hs : ¬ 0 < sgI d 0 := by
      have := sgI_cases d 0
      omega
    unfold rqgD rr00
    simp (disch := first | exact dd | fail) only [go_sem, seval, hs]
    try exact LeV.refl _
  · have hs : sgI d 0 = 1 := sgI_gt (by omega)
    unfold zb at zn zd
    have hGc := ref_Gcd (a := d.natAbs) (b := n.natAbs) (by omega) (by omega)
    have hO := ref_NatOf (v := 1) (by omega)
    have hgb : nb (d.natAbs.gcd n.natAbs) < 1073741824 := by
      have : d.natAbs.gcd n.natAbs ≤ d.natAbs := Nat.gcd_le_left _ (by omega)
      have := nb_mono this
      omega
    have hCm := ref_CmpNat (a := d.natAbs.gcd n.natAbs) (b := 1) hgb (by have := nb_lt (n := 1) (k := 1); omega)
    have hg := mk_den_ne (n := n) (d := d.natAbs) (by omega)
    have hmk := mk_parts n d.natAbs (by omega)
    simp (disch := first | exact dd | fail) only [go_sem, seval, iD, hs]
    refine cA hGc ?_
    simp (disch := first | exact dd | fail) only [go_sem, seval]
    refine cA hO ?_
    simp (disch := first | exact dd | fail) only [go_sem, seval]
    refine cA hCm ?_
    by_cases h4 : d.natAbs.gcd n.natAbs = 1
    · rw [if_neg (by omega)] at hr
      subst hr
      have hs2 : sgI ((d.natAbs.gcd n.natAbs : Nat) : Int) ((1 : Nat) : Int) = 0 := by rw [h4]; exact sgI_eq 1
      have e : rqD (mkRat n d.natAbs) = .agg [.bool (decide (n < 0)), nD n.natAbs, nD d.natAbs] := by
        unfold rqD
        have h5 : decide ((mkRat n d.natAbs).num < 0) = decide (n < 0) := by rw [decide_eq_decide]; exact hmk.2.1
        rw [hg.2 h4, hmk.1, h4, Nat.div_one, h5]
      unfold rqgD rr00
      rw [if_pos rfl, e]
      simp (disch := first | exact dd | fail) only [go_sem, seval, hs2]
      try exact LeV.refl _
    · rw [if_pos (.inr h4)] at hr
      subst hr
      have hs2 : (sgI ((d.natAbs.gcd n.natAbs : Nat) : Int) ((1 : Nat) : Int) == 0) = false := by
        rw [beq_eq_false_iff_ne]
        have := sgI_cases ((d.natAbs.gcd n.natAbs : Nat) : Int) ((1 : Nat) : Int)
        omega
      have hs3 : (sgI ((d.natAbs.gcd n.natAbs : Nat) : Int) 1 == 0) = false := hs2
      unfold rqgD rr00
      simp (disch := first | exact dd | fail) only [go_sem, seval, hs2, hs3, bne]
      try exact LeV.refl _
end Go.Proofs.YtakaojkfipnfcaaGreatDoor.Lv
