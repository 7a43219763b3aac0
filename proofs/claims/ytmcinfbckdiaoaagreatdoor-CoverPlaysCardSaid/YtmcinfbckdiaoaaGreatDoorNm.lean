/- Numbers of limbs: the plain law. Division by limbs: the plain law of one step. Division by limbs: the plain law of the rounds. Division by limbs: the guess. Division by limbs: what is taken away, and put back. Limbs multiplied, and shifted: the plain laws. Division by limbs: the rounds, plain laws. Decimal digits: the plain law. Whole numbers and quotients, as values of the abstract machine; the plain law. -/
import Derived.Test.YtmcinfbckdiaoaaGreatDoorLc
set_option linter.unusedVariables false
set_option linter.unusedSimpArgs false
namespace Go.Proofs.YtmcinfbckdiaoaaGreatDoor.Lv
open Go Go.RowKit

/-- The limbs of a number, the lowest first. -/
def limbs (n : Nat) : List Nat := if h : n = 0 then [] else n % 4294967296 :: limbs (n / 4294967296)
termination_by n
decreasing_by omega
def val : List Nat → Nat
  | [] => 0
  | x :: r => x + 4294967296 * val r
def lows (l : List Nat) : Prop := ∀ x ∈ l, x < 4294967296
/-- A row of limbs. -/
def u32s (l : List Nat) : D := .ro false 1 l.length fun i => .int .u32 ((l.getD i 0 : Nat) : Int)
def natD (n : Nat) : D := .agg [u32s (limbs n)]

theorem limbs_zero : limbs 0 = [] := by unfold limbs; simp
theorem limbs_pos {n : Nat} (h : n ≠ 0) : limbs n = n % 4294967296 :: limbs (n / 4294967296) := by rw [limbs]; simp [h]
theorem val_limbs (n : Nat) : val (limbs n) = n := by
  induction n using Nat.strongRecOn with
  | _ n ih =>
    by_cases h : n = 0
    · subst h; rw [limbs_zero]; rfl
    · rw [limbs_pos h]
      simp only [val]
      rw [ih _ (by omega)]
      omega
theorem limbs_low (n : Nat) : lows (limbs n) := by
  induction n using Nat.strongRecOn with
  | _ n ih =>
    by_cases h : n = 0
    · subst h; rw [limbs_zero]; intro x hx; cases hx
    · rw [limbs_pos h]
      intro x hx
      rcases List.mem_cons.1 hx with rfl | hx
      · omega
      · exact ih _ (by omega) x hx
theorem val_append (a b : List Nat) : val (a ++ b) = val a + 4294967296 ^ a.length * val b := by
  induction a with
  | nil => simp [val]
  | cons x a ih => simp only [List.cons_append, val, ih, List.length_cons, Nat.pow_succ, Nat.mul_add, Nat.mul_assoc, Nat.mul_comm, Nat.mul_left_comm, Nat.add_assoc]
theorem val_zero_iff {l : List Nat} : val l = 0 ↔ ∀ x ∈ l, x = 0 := by
  induction l with
  | nil => simp [val]
  | cons x l ih => simp only [val, List.forall_mem_cons, ← ih]; omega
theorem lows.cons {x : Nat} {l : List Nat} (h : lows (x :: l)) : x < 4294967296 ∧ lows l := ⟨h x (by simp), fun y hy => h y (by simp [hy])⟩
/-- Limbs whose last is not nought are a number's own. -/
theorem limbs_val {l : List Nat} (hl : lows l) (h : ∀ k, k + 1 = l.length → l.getD k 0 ≠ 0) : limbs (val l) = l := by
  induction l with
  | nil => exact limbs_zero
  | cons x l ih =>
    obtain ⟨h1, h2⟩ := hl.cons
    have ih' := ih h2 fun k hk => by
      have := h (k + 1) (by simp; omega)
      simpa using this
    have hne : val (x :: l) ≠ 0 := by
      intro e
      have := val_zero_iff.1 e
      have h3 := h l.length (by simp)
      rw [List.getD_eq_getElem?_getD] at h3
      have h4 : (x :: l)[l.length]? = some ((x :: l)[l.length]'(by simp)) := List.getElem?_eq_getElem (by simp)
      rw [h4] at h3
      exact h3 (this _ (List.getElem_mem _))
    rw [limbs_pos hne]
    simp only [val]
    rw [show (x + 4294967296 * val l) % 4294967296 = x by omega, show (x + 4294967296 * val l) / 4294967296 = val l by omega, ih']
theorem val_take {l : List Nat} {k : Nat} (hk : k < l.length) (h : l.getD k 0 = 0) : val (l.take (k + 1)) = val (l.take k) := by
  have : l.take (k + 1) = l.take k ++ [l.getD k 0] := by
    rw [List.take_add_one, List.getD_eq_getElem?_getD, List.getElem?_eq_getElem hk]
    rfl
  rw [this, val_append, h]
  simp [val]
theorem lows.take {l : List Nat} (h : lows l) (k : Nat) : lows (l.take k) := fun x hx => h x (List.mem_of_mem_take hx)
theorem lows.getD {l : List Nat} (h : lows l) (k : Nat) : l.getD k 0 < 4294967296 := by
  rw [List.getD_eq_getElem?_getD]
  cases hk : l[k]? with
  | none => simp
  | some x => exact h x (List.mem_of_getElem? hk)
theorem getD_take {l : List Nat} {k i : Nat} (h : i < k) : (l.take k).getD i 0 = l.getD i 0 := by
  rw [List.getD_eq_getElem?_getD, List.getD_eq_getElem?_getD, List.getElem?_take, if_pos h]
/-- How many limbs. -/
def nb (n : Nat) : Nat := (limbs n).length
theorem nb_lt {n k : Nat} : nb n ≤ k ↔ n < 4294967296 ^ k := by
  unfold nb
  induction k generalizing n with
  | zero =>
    by_cases h : n = 0
    · subst h; simp [limbs_zero]
    · rw [limbs_pos h]; simp [h]
  | succ k ih =>
    by_cases h : n = 0
    · subst h; simp [limbs_zero, Nat.pow_pos]
    · rw [limbs_pos h, List.length_cons, Nat.pow_succ, Nat.add_le_add_iff_right, ih]
      exact Nat.div_lt_iff_lt_mul (by omega)
/- What reckoning asks of the shapes. -/
section
variable (n : Nat) (l : List Nat) (h : Hp) (ρ : Nat → Option Nat)
theorem cl_nat : cl (natD n) = true := Eq.trans rfl rfl
theorem flat_nat : flat (natD n) = false := Eq.trans rfl rfl
theorem imp_nat : imp ρ h (natD n) = natD n := Eq.trans rfl rfl
theorem refs_nat : refs ρ (natD n) = [] := Eq.trans rfl rfl
theorem asAgg_nat : asAgg (natD n) = some [u32s (limbs n)] := Eq.trans rfl rfl
theorem one_nat : one h (natD n) = false := Eq.trans rfl rfl
theorem cl_u32s : cl (u32s l) = true := Eq.trans rfl rfl
theorem flat_u32s : flat (u32s l) = false := Eq.trans rfl rfl
theorem imp_u32s : imp ρ h (u32s l) = u32s l := Eq.trans rfl rfl
theorem refs_u32s : refs ρ (u32s l) = [] := Eq.trans rfl rfl
theorem one_u32s : one h (u32s l) = true := Eq.trans rfl rfl
end

end Go.Proofs.YtmcinfbckdiaoaaGreatDoor.Lv

set_option linter.unusedVariables false
set_option linter.unusedSimpArgs false
namespace Go.Proofs.YtmcinfbckdiaoaaGreatDoor.Lv
open Go Go.RowKit

/-- A guess that is one too great: by the greatest limbs. U: the two greatest limbs of what is divided, x: the third; V: the two greatest limbs of what divides it, P: the weight of the lower ones. -/
theorem guess_down {g r U x v1 v2 P V W : Nat} (h1 : g * v1 + r = U) (h2 : r * 4294967296 + x < g * v2) (hV : (v1 * 4294967296 + v2) * P ≤ V) (hW : W < (U * 4294967296 + x + 1) * P) : W < g * V := by
  have h3 : U * 4294967296 + x + 1 ≤ g * (v1 * 4294967296 + v2) := by
    rw [Nat.mul_add, ← h1, ← Nat.mul_assoc]
    generalize g * v1 = a at *
    generalize g * v2 = b at *
    omega
  calc W < (U * 4294967296 + x + 1) * P := hW
    _ ≤ g * (v1 * 4294967296 + v2) * P := Nat.mul_le_mul_right _ h3
    _ = g * ((v1 * 4294967296 + v2) * P) := Nat.mul_assoc _ _ _
    _ ≤ g * V := Nat.mul_le_mul_left _ hV
/-- One that is not refused is at most one too great. -/
theorem guess_done {g r U x v1 v2 P V W : Nat} (h1 : g * v1 + r = U) (h2 : g * v2 ≤ r * 4294967296 + x) (hg : g < 4294967296) (hV : V < (v1 * 4294967296 + v2 + 1) * P) (hP : 4294967296 * P ≤ V) (hW : (U * 4294967296 + x) * P ≤ W) : g * V < W + V := by
  have h3 : g * (v1 * 4294967296 + v2) ≤ U * 4294967296 + x := by
    rw [Nat.mul_add, ← h1, ← Nat.mul_assoc]
    generalize g * v1 = a at *
    generalize g * v2 = b at *
    omega
  have h4 : g * (v1 * 4294967296 + v2) * P ≤ W := Nat.le_trans (Nat.mul_le_mul_right _ h3) hW
  have h5 : g * V ≤ g * (v1 * 4294967296 + v2) * P + g * P := by
    rw [Nat.mul_assoc, ← Nat.mul_add]
    refine Nat.mul_le_mul_left _ ?_
    have : (v1 * 4294967296 + v2 + 1) * P = (v1 * 4294967296 + v2) * P + P := by rw [Nat.add_mul, Nat.one_mul]
    omega
  by_cases hg0 : g = 0
  · subst hg0
    have : 0 < V := by
      rcases Nat.eq_zero_or_pos V with h | h
      · subst h
        have hP0 : P = 0 := by omega
        subst hP0
        simp at hV
      · exact h
    omega
  have h6 : g * P < V := by
    rcases Nat.eq_zero_or_pos P with h | h
    · subst h; simp at hV
    · exact Nat.lt_of_lt_of_le (Nat.mul_lt_mul_of_pos_right hg h) hP
  omega
theorem div_of {g V W : Nat} (h1 : g * V ≤ W) (h2 : W < g * V + V) : W / V = g ∧ W % V = W - g * V := by
  have hV : 0 < V := by omega
  have h3 : W / V = g := by
    rw [Nat.div_eq_iff hV]
    constructor
    · rw [Nat.mul_comm] at h1 ⊢; omega
    · rw [Nat.mul_comm] at h2 ⊢; omega
  refine ⟨h3, ?_⟩
  have := Nat.div_add_mod W V
  rw [h3, Nat.mul_comm] at this
  omega
end Go.Proofs.YtmcinfbckdiaoaaGreatDoor.Lv

set_option linter.unusedVariables false
set_option linter.unusedSimpArgs false
namespace Go.Proofs.YtmcinfbckdiaoaaGreatDoor.Lv
open Go Go.RowKit

theorem val_cut (l : List Nat) (k : Nat) (hk : k ≤ l.length) : val l = val (l.take k) + 4294967296 ^ k * val (l.drop k) := by
  conv => lhs; rw [← List.take_append_drop k l, val_append, List.length_take, Nat.min_eq_left hk]
theorem val_ltB {l : List Nat} (h : lows l) : val l < 4294967296 ^ l.length := by
  induction l with
  | nil => simp [val]
  | cons x l ih =>
    obtain ⟨h1, h2⟩ := h.cons
    have := ih h2
    simp only [val, List.length_cons, Nat.pow_succ]
    generalize 4294967296 ^ l.length = p at *
    omega
theorem lows_take {l : List Nat} (h : lows l) (k : Nat) : lows (l.take k) := fun x hx => h x (List.mem_of_mem_take hx)
theorem lows_drop {l : List Nat} (h : lows l) (k : Nat) : lows (l.drop k) := fun x hx => h x (List.mem_of_mem_drop hx)
theorem lows_app {a b : List Nat} (h : lows a) (h' : lows b) : lows (a ++ b) := fun x hx => by
  rcases List.mem_append.1 hx with hx | hx
  · exact h x hx
  · exact h' x hx
theorem lows_set {l : List Nat} (h : lows l) {k x : Nat} (hx : x < 4294967296) : lows (l.set k x) := fun y hy => by
  rcases List.mem_or_eq_of_mem_set hy with h1 | h1
  · exact h y h1
  · omega
theorem lows_rep (n : Nat) : lows (List.replicate n 0) := fun x hx => by
  rw [(List.mem_replicate.1 hx).2]; omega
theorem val_rep (n : Nat) : val (List.replicate n 0) = 0 := by
  induction n with
  | zero => rfl
  | succ n ih => rw [List.replicate_succ, val, ih]
theorem lows_getD {l : List Nat} (h : lows l) (k : Nat) : l.getD k 0 < 4294967296 := by
  rw [List.getD_eq_getElem?_getD]
  cases hk : l[k]? with
  | none => simp
  | some x => exact h x (List.mem_of_getElem? hk)
theorem val_take_succ (l : List Nat) (k : Nat) : val (l.take (k + 1)) = val (l.take k) + 4294967296 ^ k * l.getD k 0 := by
  by_cases hk : k < l.length
  · have : l.take (k + 1) = l.take k ++ [l.getD k 0] := by
      rw [List.take_add_one, List.getD_eq_getElem?_getD, List.getElem?_eq_getElem hk]
      rfl
    rw [this, val_append, List.length_take, Nat.min_eq_left (by omega)]
    simp [val]
  · rw [List.take_of_length_le (by omega), List.take_of_length_le (by omega), List.getD_eq_getElem?_getD, List.getElem?_eq_none (by omega)]
    simp
/-- One round: what is left of these limbs, and of those ahead of them. -/
theorem round_val {l w : List Nat} {j n : Nat} (hj : j + n + 1 ≤ l.length) (hw : w.length = n + 1) (hz : val (l.drop (j + n + 1)) = 0) :
    val (l.take j ++ w ++ l.drop (j + n + 1)) = val (l.take j) + 4294967296 ^ j * val w ∧ val l = val (l.take j) + 4294967296 ^ j * val ((l.drop j).take (n + 1)) := by
  constructor
  · rw [val_append, val_append, List.length_take, Nat.min_eq_left (by omega), hz, Nat.mul_zero, Nat.add_zero]
  · rw [val_cut l j (by omega), val_cut (l.drop j) (n + 1) (by rw [List.length_drop]; omega), List.drop_drop, ← Nat.add_assoc, hz, Nat.mul_zero, Nat.add_zero]
/-- One limb of a product taken away. -/
theorem take_step {g x y c b d b' : Nat} (hg : g < 4294967296) (hx : x < 4294967296) (hy : y < 4294967296) (hc : c < 4294967296) (hb : b ≤ 1)
    (h : (x : Int) - b - ((c + g * y) % 4294967296 : Nat) = d - 4294967296 * (b' : Int)) (hd : d < 4294967296) :
    d + g * y + (c + b) = x + 4294967296 * (b' + (c + g * y) / 4294967296) ∧ (c + g * y) / 4294967296 < 4294967296 ∧ b' ≤ 1 := by
  have h1 : g * y ≤ 4294967295 * 4294967295 := Nat.mul_le_mul (by omega) (by omega)
  generalize g * y = p at *
  omega
end Go.Proofs.YtmcinfbckdiaoaaGreatDoor.Lv

set_option linter.unusedVariables false
set_option linter.unusedSimpArgs false
set_option maxRecDepth 100000
namespace Go.Proofs.YtmcinfbckdiaoaaGreatDoor.Lv
open Go Go.RowKit

theorem drop_two (l : List Nat) (k : Nat) (h : l.length = k + 2) : l.drop k = [l.getD k 0, l.getD (k + 1) 0] := by
  rw [List.drop_eq_getElem_cons (by omega), List.drop_eq_getElem_cons (by omega), List.drop_of_length_le (by omega)]
  rw [List.getD_eq_getElem?_getD, List.getD_eq_getElem?_getD, List.getElem?_eq_getElem (by omega), List.getElem?_eq_getElem (by omega)]
  rfl
theorem drop_three (l : List Nat) (k : Nat) (h : l.length = k + 3) : l.drop k = [l.getD k 0, l.getD (k + 1) 0, l.getD (k + 2) 0] := by
  rw [List.drop_eq_getElem_cons (by omega), drop_two l (k + 1) (by omega)]
  rw [List.getD_eq_getElem?_getD (i := k), List.getElem?_eq_getElem (by omega)]
  rfl
/-- What a guess is about: of limbs and one more, the greatest ones. -/
structure Gue (V W P v1 v2 U x : Nat) : Prop where
  lo : (v1 * 4294967296 + v2) * P ≤ V
  hi : V < (v1 * 4294967296 + v2 + 1) * P
  wlo : (U * 4294967296 + x) * P ≤ W
  whi : W < (U * 4294967296 + x + 1) * P
  lx : x < 4294967296
  l2 : v2 < 4294967296
  l1 : v1 < 4294967296
  big : 2147483648 ≤ v1
  pos : 0 < P
  less : W < 4294967296 * V
theorem Gue.of {w v : List Nat} {k : Nat} (hw : lows w) (hv : lows v) (lw : w.length = k + 3) (lv : v.length = k + 2) (hb : 2147483648 ≤ v.getD (k + 1) 0) (hl : val w < 4294967296 * val v) :
    Gue (val v) (val w) (4294967296 ^ k) (v.getD (k + 1) 0) (v.getD k 0) (w.getD (k + 2) 0 * 4294967296 + w.getD (k + 1) 0) (w.getD k 0) := by
  have h1 := val_cut v k (by omega)
  have h2 := val_cut w k (by omega)
  have h3 := val_ltB (lows_take hv k)
  have h4 := val_ltB (lows_take hw k)
  rw [List.length_take, Nat.min_eq_left (by omega)] at h3 h4
  rw [drop_two v k lv] at h1
  rw [drop_three w k lw] at h2
  simp only [val, Nat.mul_zero, Nat.add_zero] at h1 h2
  have hP : 0 < 4294967296 ^ k := Nat.pow_pos (by omega)
  have a1 := lows_getD hw k
  have a2 := lows_getD hv k
  have a3 := lows_getD hv (k + 1)
  generalize 4294967296 ^ k = P at *
  have e1 : (v.getD (k + 1) 0 * 4294967296 + v.getD k 0) = v.getD k 0 + 4294967296 * v.getD (k + 1) 0 := by omega
  have e2 : ((w.getD (k + 2) 0 * 4294967296 + w.getD (k + 1) 0) * 4294967296 + w.getD k 0) = w.getD k 0 + 4294967296 * (w.getD (k + 1) 0 + 4294967296 * w.getD (k + 2) 0) := by
    generalize w.getD (k + 2) 0 = p
    generalize w.getD (k + 1) 0 = q
    rw [Nat.add_comm, Nat.mul_comm (p * 4294967296 + q), Nat.add_comm (p * 4294967296), Nat.mul_comm p]
  refine ⟨?_, ?_, ?_, ?_, a1, a2, a3, hb, hP, hl⟩
  · rw [e1, Nat.mul_comm, h1]; exact Nat.le_add_left _ _
  · rw [e1, Nat.add_mul, Nat.one_mul, Nat.mul_comm _ P, h1, Nat.add_comm]; exact Nat.add_lt_add_left h3 _
  · rw [e2, Nat.mul_comm, h2]; exact Nat.le_add_left _ _
  · rw [e2, Nat.add_mul, Nat.one_mul, Nat.mul_comm _ P, h2, Nat.add_comm]; exact Nat.add_lt_add_left h4 _
section
variable {V W P v1 v2 U x : Nat} (G : Gue V W P v1 v2 U x)
include G
theorem Gue.inv0 : W < (U / v1 + 1) * V := by
  have hv : 0 < v1 := by have := G.big; omega
  have h1 : U + 1 ≤ (U / v1 + 1) * v1 := by
    have := Nat.lt_mul_div_succ U hv
    rw [Nat.mul_comm] at this
    exact this
  have h2 : (U * 4294967296 + x + 1) ≤ (U + 1) * 4294967296 := by have := G.lx; omega
  calc W < (U * 4294967296 + x + 1) * P := G.whi
    _ ≤ (U + 1) * 4294967296 * P := Nat.mul_le_mul_right _ h2
    _ ≤ (U / v1 + 1) * v1 * 4294967296 * P := Nat.mul_le_mul_right _ (Nat.mul_le_mul_right _ h1)
    _ = (U / v1 + 1) * (v1 * 4294967296 * P) := by rw [Nat.mul_assoc, Nat.mul_assoc, Nat.mul_assoc]
    _ ≤ (U / v1 + 1) * V := Nat.mul_le_mul_left _ (Nat.le_trans (Nat.mul_le_mul_right _ (Nat.le_add_right _ _)) G.lo)
/-- A refused guess is too great. -/
theorem Gue.step {g r : Nat} (h1 : g * v1 + r = U) (h2 : 4294967296 ≤ g ∨ r * 4294967296 + x < g * v2) : W < g * V := by
  rcases h2 with h2 | h2
  · exact Nat.lt_of_lt_of_le G.less (Nat.mul_le_mul_right _ h2)
  · exact guess_down h1 h2 G.lo G.whi
theorem Gue.top : U < v1 * 4294967296 + 4294967296 := by
  rcases Nat.lt_or_ge U (v1 * 4294967296 + 4294967296) with h | h
  · exact h
  exfalso
  have h1 : (v1 * 4294967296 + v2 + 1) * P * 4294967296 ≤ (U * 4294967296 + x) * P := by
    rw [Nat.mul_right_comm]
    refine Nat.mul_le_mul_right _ ?_
    have := G.l2
    omega
  have h2 := G.less
  have h3 := G.hi
  have h4 := G.wlo
  have h5 : 4294967296 * V < (v1 * 4294967296 + v2 + 1) * P * 4294967296 := by
    rw [Nat.mul_comm]; exact Nat.mul_lt_mul_of_pos_right h3 (by omega)
  omega
/-- One that stays is at most one too great. -/
theorem Gue.fin {g r : Nat} (h1 : g * v1 + r = U) (h2 : ¬ (r < 4294967296 ∧ (4294967296 ≤ g ∨ r * 4294967296 + x < g * v2))) : g < 4294967296 ∧ g * V < W + V := by
  have ht := G.top
  have hb := G.big
  have hg : g < 4294967296 := by
    rcases Nat.lt_or_ge g 4294967296 with h | h
    · exact h
    exfalso
    have h3 : 4294967296 * v1 ≤ g * v1 := Nat.mul_le_mul_right _ h
    generalize g * v1 = a at *
    omega
  have h4 : g * v2 ≤ r * 4294967296 + x := by
    rcases Nat.lt_or_ge r 4294967296 with h | h
    · omega
    · have : g * v2 ≤ 4294967295 * 4294967295 := Nat.mul_le_mul (by omega) (by have := G.l2; omega)
      generalize g * v2 = b at *
      omega
  have hP : 4294967296 * P ≤ V := by
    refine Nat.le_trans (Nat.mul_le_mul_right _ ?_) G.lo
    omega
  exact ⟨hg, guess_done h1 h4 hg G.hi hP G.wlo⟩
end
end Go.Proofs.YtmcinfbckdiaoaaGreatDoor.Lv

set_option linter.unusedVariables false
set_option linter.unusedSimpArgs false
set_option maxRecDepth 100000
namespace Go.Proofs.YtmcinfbckdiaoaaGreatDoor.Lv
open Go Go.RowKit

theorem set_take_val {l : List Nat} {i d : Nat} (h : i < l.length) : val ((l.set i d).take (i + 1)) = val (l.take i) + 4294967296 ^ i * d := by
  rw [val_take_succ, List.take_set_of_le (Nat.le_refl i), List.getD_eq_getElem?_getD, List.getElem?_set_self h]
  rfl
theorem set_drop {l : List Nat} {i d : Nat} : (l.set i d).drop (i + 1) = l.drop (i + 1) := by
  rw [List.drop_set_of_lt (Nat.lt_succ_self i)]
theorem getD_of_drop {a b : List Nat} {i : Nat} (h : a.drop i = b.drop i) : a.getD i 0 = b.getD i 0 := by
  have := congrArg (fun l => l.getD 0 0) h
  simp only [List.getD_eq_getElem?_getD, List.getElem?_drop, Nat.add_zero] at this
  rw [List.getD_eq_getElem?_getD, List.getD_eq_getElem?_getD]
  exact this
theorem drop_succ_of {a b : List Nat} {i : Nat} (h : a.drop i = b.drop i) : a.drop (i + 1) = b.drop (i + 1) := by
  rw [← List.drop_drop, ← List.drop_drop, h]
/-- One limb of so often another number, taken away. -/
theorem tk_step {w w' v : List Nat} {i g c b d b' c' : Nat} (hi : i < w'.length) (hdr : w'.drop i = w.drop i)
    (hinv : val (w'.take i) + g * val (v.take i) = val (w.take i) + 4294967296 ^ i * (c + b)) (hs : d + g * v.getD i 0 + (c + b) = w.getD i 0 + 4294967296 * (b' + c')) :
    val ((w'.set i d).take (i + 1)) + g * val (v.take (i + 1)) = val (w.take (i + 1)) + 4294967296 ^ (i + 1) * (c' + b') ∧ (w'.set i d).drop (i + 1) = w.drop (i + 1) := by
  refine ⟨?_, by rw [set_drop]; exact drop_succ_of hdr⟩
  rw [set_take_val hi, val_take_succ v, val_take_succ w, Nat.pow_succ]
  have h2 : 4294967296 ^ i * (d + g * v.getD i 0 + (c + b)) = 4294967296 ^ i * (w.getD i 0 + 4294967296 * (b' + c')) := by rw [hs]
  generalize 4294967296 ^ i = p at *
  have e1 : g * (val (v.take i) + p * v.getD i 0) = g * val (v.take i) + p * (g * v.getD i 0) := by rw [Nat.mul_add, Nat.mul_left_comm]
  have e2 : p * 4294967296 * (c' + b') = p * (4294967296 * (b' + c')) := by rw [Nat.mul_assoc, Nat.add_comm c']
  rw [e1, e2]
  clear hs e1 e2
  generalize c + b = cb at *
  generalize 4294967296 * (b' + c') = bc at *
  rw [Nat.mul_add, Nat.mul_add, Nat.mul_add] at h2
  generalize g * val (v.take i) = m1 at *
  generalize p * (g * v.getD i 0) = m2 at *
  generalize p * bc = m3 at *
  generalize p * cb = m4 at *
  generalize p * w.getD i 0 = m5 at *
  generalize p * d = m6 at *
  omega
/-- One limb put back. -/
theorem ad_step {w w' v : List Nat} {i c d c' : Nat} (hi : i < w'.length) (hdr : w'.drop i = w.drop i)
    (hinv : val (w'.take i) + 4294967296 ^ i * c = val (w.take i) + val (v.take i)) (hs : d + 4294967296 * c' = c + w.getD i 0 + v.getD i 0) :
    val ((w'.set i d).take (i + 1)) + 4294967296 ^ (i + 1) * c' = val (w.take (i + 1)) + val (v.take (i + 1)) ∧ (w'.set i d).drop (i + 1) = w.drop (i + 1) := by
  refine ⟨?_, by rw [set_drop]; exact drop_succ_of hdr⟩
  rw [set_take_val hi, val_take_succ v, val_take_succ w, Nat.pow_succ]
  have h2 : 4294967296 ^ i * (d + 4294967296 * c') = 4294967296 ^ i * (c + w.getD i 0 + v.getD i 0) := by rw [hs]
  generalize 4294967296 ^ i = p at *
  rw [Nat.mul_assoc]
  rw [Nat.mul_add, Nat.mul_add, Nat.mul_add] at h2
  generalize p * (4294967296 * c') = m3 at *
  generalize p * c = m4 at *
  generalize p * w.getD i 0 = m5 at *
  generalize p * v.getD i 0 = m7 at *
  generalize p * d = m6 at *
  omega
/-- What a round's taking comes to. -/
theorem tk_fin {w w' v : List Nat} {n g c b d neg : Nat} (lw : w.length = n + 1) (lw' : w'.length = n + 1) (lv : v.length = n)
    (hinv : val (w'.take n) + g * val (v.take n) = val (w.take n) + 4294967296 ^ n * (c + b)) (hs : d + (c + b) = w.getD n 0 + 4294967296 * neg) :
    val (w'.set n d) + g * val v = val w + 4294967296 ^ (n + 1) * neg := by
  have h1 : val (w'.set n d) = val ((w'.set n d).take (n + 1)) := by rw [List.take_of_length_le (by simp; omega)]
  have h2 : val w = val (w.take (n + 1)) := by rw [List.take_of_length_le (by omega)]
  have h3 : val v = val (v.take n) := by rw [List.take_of_length_le (by omega)]
  rw [h1, h2, h3, set_take_val (by omega), val_take_succ w, Nat.pow_succ, Nat.mul_assoc]
  have h4 : 4294967296 ^ n * (d + (c + b)) = 4294967296 ^ n * (w.getD n 0 + 4294967296 * neg) := by rw [hs]
  clear hs
  generalize 4294967296 ^ n = p at *
  generalize c + b = cb at *
  rw [Nat.mul_add, Nat.mul_add] at h4
  generalize p * (4294967296 * neg) = m3 at *
  generalize p * cb = m4 at *
  generalize p * w.getD n 0 = m5 at *
  generalize p * d = m6 at *
  generalize g * val (v.take n) = m7 at *
  omega
theorem ad_fin {w w' v : List Nat} {n c d k : Nat} (lw : w.length = n + 1) (lw' : w'.length = n + 1) (lv : v.length = n)
    (hinv : val (w'.take n) + 4294967296 ^ n * c = val (w.take n) + val (v.take n)) (hs : d + 4294967296 * k = c + w.getD n 0) :
    val (w'.set n d) + 4294967296 ^ (n + 1) * k = val w + val v := by
  have h1 : val (w'.set n d) = val ((w'.set n d).take (n + 1)) := by rw [List.take_of_length_le (by simp; omega)]
  have h2 : val w = val (w.take (n + 1)) := by rw [List.take_of_length_le (by omega)]
  have h3 : val v = val (v.take n) := by rw [List.take_of_length_le (by omega)]
  rw [h1, h2, h3, set_take_val (by omega), val_take_succ w, Nat.pow_succ, Nat.mul_assoc]
  have h4 : 4294967296 ^ n * (d + 4294967296 * k) = 4294967296 ^ n * (c + w.getD n 0) := by rw [hs]
  generalize 4294967296 ^ n = p at *
  rw [Nat.mul_add, Nat.mul_add] at h4
  generalize p * (4294967296 * k) = m3 at *
  generalize p * c = m4 at *
  generalize p * w.getD n 0 = m5 at *
  generalize p * d = m6 at *
  omega
/-- A right guess: just the rest is left. -/
theorem div_right {W V g w1 Q : Nat} (h : w1 + g * V = W + Q * 0) (hg : W < (g + 1) * V) : W / V = g ∧ W % V = w1 := by
  rw [Nat.mul_zero, Nat.add_zero] at h
  rw [Nat.add_mul, Nat.one_mul] at hg
  have := div_of (g := g) (V := V) (W := W) (by omega) (by omega)
  exact ⟨this.1, by omega⟩
/-- A guess that was too great, put right. -/
theorem div_back {W V g w1 w2 Q k : Nat} (h1 : w1 + g * V = W + Q * 1) (h2 : w2 + Q * k = w1 + V) (hlt1 : w1 < Q) (hlt2 : w2 < Q) (hg : g * V < W + V) (hV : V ≤ Q) : 0 < g ∧ W / V = g - 1 ∧ W % V = w2 := by
  rw [Nat.mul_one] at h1
  have hg0 : 0 < g := by
    rcases Nat.eq_zero_or_pos g with h | h
    · subst h; rw [Nat.zero_mul] at h1; omega
    · exact h
  obtain ⟨m, rfl⟩ : ∃ m, g = m + 1 := ⟨g - 1, by omega⟩
  rw [Nat.add_mul, Nat.one_mul] at h1 hg
  have hk : k = 1 := by
    rcases Nat.lt_or_ge k 1 with h | h
    · obtain rfl : k = 0 := by omega
      rw [Nat.mul_zero] at h2
      omega
    rcases Nat.lt_or_ge k 2 with h' | h'
    · omega
    · have : Q * 2 ≤ Q * k := Nat.mul_le_mul_left _ h'
      omega
  subst hk
  rw [Nat.mul_one] at h2
  have := div_of (g := m) (V := V) (W := W) (by omega) (by omega)
  exact ⟨by omega, by rw [this.1]; rfl, by omega⟩
end Go.Proofs.YtmcinfbckdiaoaaGreatDoor.Lv

set_option linter.unusedVariables false
set_option linter.unusedSimpArgs false
set_option maxRecDepth 100000
namespace Go.Proofs.YtmcinfbckdiaoaaGreatDoor.Lv
open Go Go.RowKit

/-- The limbs after i rounds of a product. -/
def MulI (x y : List Nat) (i : Nat) (w : List Nat) : Prop := w.length = x.length + y.length ∧ lows w ∧ val (w.take (i + y.length)) = val (x.take i) * val y
/-- The same within round i, behind k limbs: c is carried. -/
def MulK (x y w : List Nat) (i : Nat) (s : Nat × Nat × List Nat) : Prop := s.1 ≤ y.length ∧ s.2.1 < 4294967296 ∧ s.2.2.length = x.length + y.length ∧ lows s.2.2 ∧
  val (s.2.2.take (i + s.1)) + 4294967296 ^ (i + s.1) * s.2.1 = val (w.take (i + s.1)) + 4294967296 ^ i * (x.getD i 0 * val (y.take s.1)) ∧ s.2.2.drop (i + s.1) = w.drop (i + s.1)
theorem MulI.zero (x y : List Nat) : MulI x y 0 (List.replicate (x.length + y.length) 0) :=
  ⟨by simp, lows_rep _, by rw [List.take_replicate, val_rep, List.take_zero, val, Nat.zero_mul]⟩
theorem MulI.fin {x y w : List Nat} (h : MulI x y x.length w) : lows w ∧ val w = val x * val y := by
  obtain ⟨h1, h2, h3⟩ := h
  rw [List.take_of_length_le (by omega), List.take_of_length_le (Nat.le_refl _)] at h3
  exact ⟨h2, h3⟩
theorem MulK.zero {x y w : List Nat} {i : Nat} (h : MulI x y i w) : MulK x y w i (0, 0, w) := by
  obtain ⟨h1, h2, h3⟩ := h
  exact ⟨Nat.zero_le _, by simp, h1, h2, by simp [val], rfl⟩
theorem mul_bound {c x y z : Nat} (hc : c < 4294967296) (hx : x < 4294967296) (hy : y < 4294967296) (hz : z < 4294967296) : x * y < 18446744065119617026 ∧ x * y + z < 18446744069414584321 ∧ c + (x * y + z) < 18446744073709551616 := by
  have h1 : x * y ≤ 4294967295 * 4294967295 := Nat.mul_le_mul (by omega) (by omega)
  generalize x * y = p at *
  omega
theorem MulK.next {x y w : List Nat} (hx : lows x) (hy : lows y) {i k c : Nat} {w' : List Nat} (h : MulK x y w i (k, c, w')) (hi : i < x.length) (hk : k < y.length) :
    MulK x y w i (k + 1, (c + (x.getD i 0 * y.getD k 0 + w'.getD (i + k) 0)) / 4294967296, w'.set (i + k) ((c + (x.getD i 0 * y.getD k 0 + w'.getD (i + k) 0)) % 4294967296)) := by
  obtain ⟨h1, h2, h3, h4, h5, h6⟩ := h
  simp only at h1 h2 h3 h4 h5 h6
  have hb := mul_bound h2 (hx.getD i) (hy.getD k) (h4.getD (i + k))
  have hw := getD_of_drop h6
  generalize ht : c + (x.getD i 0 * y.getD k 0 + w'.getD (i + k) 0) = t at *
  refine ⟨hk, ?_, by simp only [List.length_set]; exact h3, lows_set h4 (by omega), ?_, ?_⟩
  · show t / 4294967296 < 4294967296
    obtain ⟨_, _, h⟩ := hb
    clear h5
    omega
  · show val ((w'.set (i + k) (t % 4294967296)).take (i + k + 1)) + 4294967296 ^ (i + k + 1) * (t / 4294967296) = val (w.take (i + k + 1)) + 4294967296 ^ i * (x.getD i 0 * val (y.take (k + 1)))
    rw [set_take_val (by omega), val_take_succ w, val_take_succ y, Nat.pow_succ, Nat.mul_assoc, Nat.mul_add (x.getD i 0), Nat.mul_add (4294967296 ^ i), Nat.mul_left_comm (x.getD i 0), ← Nat.mul_assoc (4294967296 ^ i) (4294967296 ^ k), ← Nat.pow_add, ← hw]
    have e := Nat.div_add_mod t 4294967296
    have e2 : 4294967296 ^ (i + k) * (t % 4294967296) + 4294967296 ^ (i + k) * (4294967296 * (t / 4294967296)) = 4294967296 ^ (i + k) * c + (4294967296 ^ (i + k) * (x.getD i 0 * y.getD k 0) + 4294967296 ^ (i + k) * w'.getD (i + k) 0) := by
      rw [← Nat.mul_add, ← Nat.mul_add, ← Nat.mul_add, ht]
      congr 1
      clear h5 e
      omega
    clear e ht hb
    generalize 4294967296 ^ (i + k) * (t % 4294967296) = a1 at *
    generalize 4294967296 ^ (i + k) * (4294967296 * (t / 4294967296)) = a2 at *
    generalize 4294967296 ^ (i + k) * c = a3 at *
    generalize 4294967296 ^ (i + k) * (x.getD i 0 * y.getD k 0) = a4 at *
    generalize 4294967296 ^ (i + k) * w'.getD (i + k) 0 = a5 at *
    generalize 4294967296 ^ i * (x.getD i 0 * val (y.take k)) = a6 at *
    omega
  · show (w'.set (i + k) (t % 4294967296)).drop (i + k + 1) = w.drop (i + k + 1)
    rw [set_drop]; exact drop_succ_of h6
theorem MulK.fin {x y w : List Nat} {i c : Nat} {w' : List Nat} (h0 : MulI x y i w) (h : MulK x y w i (y.length, c, w')) (hi : i < x.length) : MulI x y (i + 1) (w'.set (i + y.length) c) := by
  obtain ⟨g1, g2, g3⟩ := h0
  obtain ⟨h1, h2, h3, h4, h5, h6⟩ := h
  simp only at h1 h2 h3 h4 h5 h6
  refine ⟨by rw [List.length_set]; exact h3, lows_set h4 h2, ?_⟩
  rw [show i + 1 + y.length = i + y.length + 1 by omega, set_take_val (by omega), h5, g3, List.take_of_length_le (Nat.le_refl y.length), val_take_succ x, Nat.add_mul, Nat.mul_assoc]
theorem wr_mul {x y z c : Nat} (hc : c < 4294967296) (hx : x < 4294967296) (hy : y < 4294967296) (hz : z < 4294967296) :
    IntKind.u64.wrap ((x : Int) * (y : Int)) = ((x * y : Nat) : Int) ∧ IntKind.u64.wrap (((x * y : Nat) : Int) + (z : Int)) = ((x * y + z : Nat) : Int) ∧ IntKind.u64.wrap ((c : Int) + ((x * y + z : Nat) : Int)) = ((c + (x * y + z) : Nat) : Int) ∧
      IntKind.u32.wrap ((c + (x * y + z) : Nat) : Int) = (((c + (x * y + z)) % 4294967296 : Nat) : Int) ∧ ((c + (x * y + z) : Nat) : Int) / 4294967296 = (((c + (x * y + z)) / 4294967296 : Nat) : Int) := by
  obtain ⟨h1, h2, h3⟩ := mul_bound hc hx hy hz
  rw [← Int.natCast_mul]
  generalize x * y = p at *
  refine ⟨wrap_u64 (by omega), ?_, ?_, ?_, by omega⟩
  · rw [wrap_u64 (by omega)]; omega
  · rw [wrap_u64 (by omega)]; omega
  · rw [wrap_u32']; omega

theorem or_addN (i a b : Nat) (h : b < 2 ^ i) : b ||| 2 ^ i * a = b + 2 ^ i * a := by
  rw [Nat.or_comm, ← Nat.two_pow_add_eq_or_of_lt h, Nat.add_comm]
/-- The limbs after i rounds of a shift to the left, by s limbs and r digits. -/
def ShlI (x : List Nat) (s r i : Nat) (w : List Nat) : Prop := i ≤ x.length ∧ w.length = x.length + s + 1 ∧ lows w ∧ w.getD (i + s) 0 < 2 ^ r ∧ val (w.take (i + s + 1)) = val (x.take i) * (2 ^ r * 4294967296 ^ s)
theorem ShlI.zero (x : List Nat) (s r : Nat) : ShlI x s r 0 (List.replicate (x.length + s + 1) 0) := by
  refine ⟨Nat.zero_le _, by simp, lows_rep _, ?_, ?_⟩
  · rw [List.getD_eq_getElem?_getD, List.getElem?_replicate]
    split
    · exact Nat.two_pow_pos r
    · exact Nat.two_pow_pos r
  · rw [List.take_replicate, val_rep, List.take_zero, val, Nat.zero_mul]
theorem ShlI.fin {x : List Nat} {s r : Nat} {w : List Nat} (h : ShlI x s r x.length w) : lows w ∧ val w = val x * (2 ^ r * 4294967296 ^ s) := by
  obtain ⟨_, h1, h2, _, h3⟩ := h
  rw [List.take_of_length_le (by omega), List.take_of_length_le (Nat.le_refl _)] at h3
  exact ⟨h2, h3⟩
theorem shl_limb {x r : Nat} (hx : x < 4294967296) (hr : r < 32) : x * 2 ^ r < 9223372036854775808 ∧ x * 2 ^ r / 4294967296 < 2 ^ r ∧ ∃ q, x * 2 ^ r % 4294967296 = 2 ^ r * q := by
  have h1 : 2 ^ r ≤ 2 ^ 31 := Nat.pow_le_pow_right (by omega) (by omega)
  have h2 : x * 2 ^ r ≤ 4294967295 * 2 ^ 31 := Nat.mul_le_mul (by omega) h1
  have h0 := Nat.two_pow_pos r
  refine ⟨by omega, ?_, x % 2 ^ (32 - r), ?_⟩
  · rw [Nat.div_lt_iff_lt_mul (by omega), Nat.mul_comm]
    exact Nat.mul_lt_mul_of_pos_left hx h0
  · have e : (4294967296 : Nat) = 2 ^ (32 - r) * 2 ^ r := by rw [← Nat.pow_add, show 32 - r + r = 32 by omega]
    conv => lhs; rw [e]
    rw [Nat.mul_mod_mul_right, Nat.mul_comm]
theorem ShlI.next {x : List Nat} (hx : lows x) {s r i : Nat} (hr : r < 32) {w : List Nat} (h : ShlI x s r i w) (hi : i < x.length) :
    (w.getD (i + s) 0 ||| (x.getD i 0 * 2 ^ r) % 4294967296) = w.getD (i + s) 0 + (x.getD i 0 * 2 ^ r) % 4294967296 ∧ w.getD (i + s) 0 + (x.getD i 0 * 2 ^ r) % 4294967296 < 4294967296 ∧
    ShlI x s r (i + 1) ((w.set (i + s) (w.getD (i + s) 0 + (x.getD i 0 * 2 ^ r) % 4294967296)).set (i + s + 1) (x.getD i 0 * 2 ^ r / 4294967296)) := by
  obtain ⟨_, h1, h2, h3, h4⟩ := h
  obtain ⟨b1, b2, q, b3⟩ := shl_limb (hx.getD i) hr
  have g1 := h2.getD (i + s)
  have hlt : w.getD (i + s) 0 + (x.getD i 0 * 2 ^ r) % 4294967296 < 4294967296 := by
    rw [b3, ← or_addN r q _ h3]
    have e : w.getD (i + s) 0 ||| 2 ^ r * q < 2 ^ 32 := Nat.or_lt_two_pow g1 (by rw [← b3]; exact Nat.mod_lt _ (by omega))
    exact e
  refine ⟨?_, hlt, hi, by simp only [List.length_set]; exact h1, lows_set (lows_set h2 hlt) ?_, ?_, ?_⟩
  · rw [b3, or_addN r q _ h3]
  · clear h4 hlt; omega
  · rw [show i + 1 + s = i + s + 1 by omega, List.getD_eq_getElem?_getD, List.getElem?_set_self (by rw [List.length_set]; omega)]
    exact b2
  · rw [show i + 1 + s + 1 = i + s + 1 + 1 by omega, set_take_val (by rw [List.length_set]; omega), set_take_val (by omega), val_take_succ x, Nat.add_mul, ← h4, val_take_succ w, Nat.mul_add, Nat.pow_succ, Nat.mul_assoc (4294967296 ^ (i + s))]
    have e : 4294967296 ^ i * x.getD i 0 * (2 ^ r * 4294967296 ^ s) = 4294967296 ^ (i + s) * (x.getD i 0 * 2 ^ r) := by
      rw [Nat.pow_add, Nat.mul_assoc, Nat.mul_assoc, ← Nat.mul_assoc (x.getD i 0), Nat.mul_comm (x.getD i 0 * 2 ^ r)]
    have e2 := Nat.div_add_mod (x.getD i 0 * 2 ^ r) 4294967296
    rw [e]
    conv => rhs; rw [← e2]
    rw [Nat.mul_add]
    omega
/-- The limbs after i rounds of a shift to the right, by r digits. -/
def ShrI (x : List Nat) (r i : Nat) (w : List Nat) : Prop := i ≤ x.length ∧ w.length = x.length ∧ lows w ∧ (∀ j, j + 1 = i → w.getD j 0 = x.getD j 0 / 2 ^ r) ∧ val (w.take i) = val (x.take i) / 2 ^ r
theorem ShrI.zero (x : List Nat) (r : Nat) : ShrI x r 0 (List.replicate x.length 0) :=
  ⟨Nat.zero_le _, by simp, lows_rep _, fun j hj => by omega, by simp [val]⟩
theorem ShrI.fin {x : List Nat} {r : Nat} {w : List Nat} (h : ShrI x r x.length w) : lows w ∧ val w = val x / 2 ^ r := by
  obtain ⟨_, h1, h2, _, h3⟩ := h
  rw [List.take_of_length_le (by omega), List.take_of_length_le (Nat.le_refl _)] at h3
  exact ⟨h2, h3⟩
theorem shr_limb {x y r : Nat} (hx : x < 4294967296) (hy : y < 4294967296) (hr : r < 32) : (x * 2 ^ (32 - r)) % 4294967296 = 2 ^ (32 - r) * (x % 2 ^ r) ∧ y / 2 ^ r < 2 ^ (32 - r) ∧ x * 2 ^ (32 - r) < 18446744073709551616 := by
  have e : (4294967296 : Nat) = 2 ^ r * 2 ^ (32 - r) := by rw [← Nat.pow_add, show r + (32 - r) = 32 by omega]
  refine ⟨?_, ?_, ?_⟩
  · conv => lhs; rw [e]
    rw [Nat.mul_mod_mul_right, Nat.mul_comm]
  · rw [Nat.div_lt_iff_lt_mul (Nat.two_pow_pos r), Nat.mul_comm, ← e]; exact hy
  · have h1 : 2 ^ (32 - r) ≤ 2 ^ 32 := Nat.pow_le_pow_right (by omega) (by omega)
    have h2 : x * 2 ^ (32 - r) ≤ 4294967295 * 2 ^ 32 := Nat.mul_le_mul (by omega) h1
    omega
/-- The first limb. -/
theorem ShrI.first {x : List Nat} (hx : lows x) {r : Nat} {w : List Nat} (h : ShrI x r 0 w) (hi : 0 < x.length) : ShrI x r 1 (w.set 0 (x.getD 0 0 / 2 ^ r)) := by
  obtain ⟨_, h1, h2, h3, h4⟩ := h
  have g := hx.getD 0
  have hle : x.getD 0 0 / 2 ^ r ≤ x.getD 0 0 := Nat.div_le_self _ _
  refine ⟨hi, by rw [List.length_set]; exact h1, lows_set h2 (by omega), fun j hj => ?_, ?_⟩
  · obtain rfl : j = 0 := by omega
    rw [List.getD_eq_getElem?_getD, List.getElem?_set_self (by omega)]; rfl
  · have := set_take_val (l := w) (i := 0) (d := x.getD 0 0 / 2 ^ r) (by omega)
    rw [Nat.zero_add] at this
    rw [this]
    have e := val_take_succ x 0
    rw [Nat.zero_add] at e
    rw [e]
    simp [val]
/-- Another one. -/
theorem ShrI.next {x : List Nat} (hx : lows x) {r i : Nat} (hr : r < 32) {w : List Nat} (h : ShrI x r (i + 1) w) (hi : i + 1 < x.length) :
    (w.getD i 0 ||| (x.getD (i + 1) 0 * 2 ^ (32 - r)) % 4294967296) = w.getD i 0 + (x.getD (i + 1) 0 * 2 ^ (32 - r)) % 4294967296 ∧ w.getD i 0 + (x.getD (i + 1) 0 * 2 ^ (32 - r)) % 4294967296 < 4294967296 ∧
    ShrI x r (i + 2) ((w.set (i + 1) (x.getD (i + 1) 0 / 2 ^ r)).set i (w.getD i 0 + (x.getD (i + 1) 0 * 2 ^ (32 - r)) % 4294967296)) := by
  obtain ⟨_, h1, h2, h3, h4⟩ := h
  obtain ⟨b1, b2, b3⟩ := shr_limb (x := x.getD (i + 1) 0) (y := x.getD i 0) (hx.getD (i + 1)) (hx.getD i) hr
  have hw := h3 i rfl
  have g1 := h2.getD i
  have g2 := hx.getD (i + 1)
  have hle : x.getD (i + 1) 0 / 2 ^ r ≤ x.getD (i + 1) 0 := Nat.div_le_self _ _
  have hlt : w.getD i 0 + (x.getD (i + 1) 0 * 2 ^ (32 - r)) % 4294967296 < 4294967296 := by
    rw [b1, ← or_addN (32 - r) _ _ (by rw [hw]; exact b2)]
    have e : w.getD i 0 ||| 2 ^ (32 - r) * (x.getD (i + 1) 0 % 2 ^ r) < 2 ^ 32 := Nat.or_lt_two_pow g1 (by rw [← b1]; exact Nat.mod_lt _ (by omega))
    exact e
  refine ⟨?_, hlt, hi, by simp only [List.length_set]; exact h1, lows_set (lows_set h2 (by omega)) hlt, fun j hj => ?_, ?_⟩
  · rw [b1, or_addN (32 - r) _ _ (by rw [hw]; exact b2)]
  · obtain rfl : j = i + 1 := by omega
    rw [List.getD_eq_getElem?_getD, List.getElem?_set_ne (by omega), List.getElem?_set_self (by omega)]; rfl
  · have hp := Nat.two_pow_pos r
    have e32 : (4294967296 : Nat) = 2 ^ (32 - r) * 2 ^ r := by rw [← Nat.pow_add, show 32 - r + r = 32 by omega]
    rw [val_take_succ, val_take_succ x, List.getD_eq_getElem?_getD (l := (w.set (i + 1) _).set i _), List.getElem?_set_ne (by omega), List.getElem?_set_self (by omega), Option.getD_some]
    have e1 : ((w.set (i + 1) (x.getD (i + 1) 0 / 2 ^ r)).set i (w.getD i 0 + (x.getD (i + 1) 0 * 2 ^ (32 - r)) % 4294967296)).take (i + 1) = (w.set i (w.getD i 0 + (x.getD (i + 1) 0 * 2 ^ (32 - r)) % 4294967296)).take (i + 1) := by
      rw [List.take_set, List.take_set, List.take_set, List.set_comm _ _ (by omega), List.set_eq_of_length_le]
      rw [List.length_set, List.length_take]; omega
    rw [e1, set_take_val (by omega), Nat.mul_add, ← Nat.add_assoc, ← val_take_succ, h4, b1]
    have e3 : 4294967296 ^ (i + 1) * x.getD (i + 1) 0 = 2 ^ r * (4294967296 ^ i * (2 ^ (32 - r) * (x.getD (i + 1) 0 % 2 ^ r)) + 4294967296 ^ (i + 1) * (x.getD (i + 1) 0 / 2 ^ r)) := by
      have e4 : 4294967296 ^ (i + 1) = 4294967296 ^ i * (2 ^ (32 - r) * 2 ^ r) := by rw [Nat.pow_succ, ← e32]
      conv => lhs; rw [← Nat.div_add_mod (x.getD (i + 1) 0) (2 ^ r)]
      rw [Nat.mul_add, Nat.mul_add, Nat.add_comm]
      congr 1
      · rw [e4]; simp only [Nat.mul_comm, Nat.mul_left_comm, Nat.mul_assoc]
      · simp only [Nat.mul_comm, Nat.mul_left_comm, Nat.mul_assoc]
    rw [e3, Nat.add_mul_div_left _ _ hp, Nat.add_assoc]
end Go.Proofs.YtmcinfbckdiaoaaGreatDoor.Lv

set_option linter.unusedVariables false
set_option linter.unusedSimpArgs false
set_option maxRecDepth 100000
namespace Go.Proofs.YtmcinfbckdiaoaaGreatDoor.Lv
open Go Go.RowKit

/-- The guess, by its rounds. -/
def gsG (v1 v2 x : Nat) : Nat → Nat → Nat → Nat
  | 0, g, _ => g
  | k + 1, g, r => if r < 4294967296 ∧ (4294967296 ≤ g ∨ r * 4294967296 + x < g * v2) then gsG v1 v2 x k (g - 1) (r + v1) else g
/-- What holds of a guess under way. -/
def GsP (V W v1 v2 U x : Nat) (s : Nat × Nat × Nat) : Prop := s.2.1 * v1 + s.2.2 = U ∧ W < (s.2.1 + 1) * V ∧ 4294967296 ≤ s.2.2 + s.1 * 2147483648
theorem GsP.next {V W P v1 v2 U x : Nat} (G : Gue V W P v1 v2 U x) {k g r : Nat} (h : GsP V W v1 v2 U x (k, g, r)) (hc : r < 4294967296 ∧ (4294967296 ≤ g ∨ r * 4294967296 + x < g * v2)) :
    ∃ k', k = k' + 1 ∧ 0 < g ∧ GsP V W v1 v2 U x (k', g - 1, r + v1) := by
  obtain ⟨h1, h2, h3⟩ := h
  simp only at h1 h2 h3
  have hb := G.big
  have hk : k ≠ 0 := fun e => by subst e; omega
  have hg : 0 < g := by
    rcases Nat.eq_zero_or_pos g with e | e
    · subst e; simp at hc
    · exact e
  have hs := G.step h1 hc.2
  obtain ⟨m, rfl⟩ : ∃ m, g = m + 1 := ⟨g - 1, by omega⟩
  refine ⟨k - 1, by omega, hg, ?_, by simpa using hs, ?_⟩
  · show m * v1 + (r + v1) = U
    rw [Nat.add_mul, Nat.one_mul] at h1; omega
  · show 4294967296 ≤ r + v1 + (k - 1) * 2147483648
    omega
theorem gsG_t {v1 v2 x k g r : Nat} (hc : r < 4294967296 ∧ (4294967296 ≤ g ∨ r * 4294967296 + x < g * v2)) : gsG v1 v2 x (k + 1) g r = gsG v1 v2 x k (g - 1) (r + v1) := by rw [gsG, if_pos hc]
theorem gsG_f {v1 v2 x k g r : Nat} (hc : ¬ (r < 4294967296 ∧ (4294967296 ≤ g ∨ r * 4294967296 + x < g * v2))) : gsG v1 v2 x k g r = g := by
  cases k with
  | zero => rfl
  | succ k => rw [gsG, if_neg hc]
/-- What the guess comes to. -/
theorem gsG_ok {V W P v1 v2 U x : Nat} (G : Gue V W P v1 v2 U x) : ∀ (k g r : Nat), GsP V W v1 v2 U x (k, g, r) → gsG v1 v2 x k g r < 4294967296 ∧ gsG v1 v2 x k g r * V < W + V ∧ W < (gsG v1 v2 x k g r + 1) * V
  | k, g, r, h => by
    by_cases hc : r < 4294967296 ∧ (4294967296 ≤ g ∨ r * 4294967296 + x < g * v2)
    · obtain ⟨k', rfl, hg, h'⟩ := h.next G hc
      rw [gsG_t hc]
      exact gsG_ok G k' _ _ h'
    · rw [gsG_f hc]
      obtain ⟨h1, h2, h3⟩ := h
      obtain ⟨f1, f2⟩ := G.fin h1 hc
      exact ⟨f1, f2, h2⟩
/-- The guess. -/
def gss (v1 v2 U x : Nat) : Nat := gsG v1 v2 x 2 (U / v1) (U % v1)
theorem GsP.zero {V W P v1 v2 U x : Nat} (G : Gue V W P v1 v2 U x) : GsP V W v1 v2 U x (2, U / v1, U % v1) := by
  refine ⟨?_, G.inv0, ?_⟩
  · show U / v1 * v1 + U % v1 = U
    rw [Nat.mul_comm]; exact Nat.div_add_mod U v1
  · show 4294967296 ≤ U % v1 + 2 * 2147483648
    omega
theorem gss_ok {V W P v1 v2 U x : Nat} (G : Gue V W P v1 v2 U x) : gss v1 v2 U x < 4294967296 ∧ gss v1 v2 U x * V < W + V ∧ W < (gss v1 v2 U x + 1) * V := gsG_ok G _ _ _ (GsP.zero G)

/-- A window within limbs. -/
theorem win_get {p w q : List Nat} {i : Nat} (h : i < w.length) : (p ++ w ++ q).getD (p.length + i) 0 = w.getD i 0 := by
  rw [List.getD_eq_getElem?_getD, List.append_assoc, List.getElem?_append_right (by omega), show p.length + i - p.length = i by omega, List.getElem?_append_left h, List.getD_eq_getElem?_getD]
theorem win_set {p w q : List Nat} {i d : Nat} (h : i < w.length) : (p ++ w ++ q).set (p.length + i) d = p ++ w.set i d ++ q := by
  rw [List.append_assoc, List.set_append_right _ _ (by omega), show p.length + i - p.length = i by omega, List.set_append_left _ _ h, List.append_assoc]
/-- What taking away does, behind i limbs: c and b are carried. -/
def TkP (g : Nat) (w v : List Nat) (s : Nat × Nat × Nat × List Nat) : Prop := s.1 ≤ v.length ∧ s.2.1 < 4294967296 ∧ s.2.2.1 ≤ 1 ∧ s.2.2.2.length = v.length + 1 ∧ lows s.2.2.2 ∧
  val (s.2.2.2.take s.1) + g * val (v.take s.1) = val (w.take s.1) + 4294967296 ^ s.1 * (s.2.1 + s.2.2.1) ∧ s.2.2.2.drop s.1 = w.drop s.1
theorem TkP.zero (g : Nat) {w v : List Nat} (lw : w.length = v.length + 1) (hw : lows w) : TkP g w v (0, 0, 0, w) := ⟨Nat.zero_le _, by simp, by simp, lw, hw, by simp [val], rfl⟩
/-- A limb's new value, and what is carried. -/
def tkC (g y c : Nat) : Nat := c + g * y
def tkD (g x y c b : Nat) : Nat := (18446744073709551616 + x - b - (c + g * y) % 4294967296) % 4294967296
def tkB (g x y c b : Nat) : Nat := if x < b + (c + g * y) % 4294967296 then 1 else 0
theorem TkP.next {g : Nat} {w v : List Nat} (hg : g < 4294967296) (hv : lows v) {i c b : Nat} {w' : List Nat} (h : TkP g w v (i, c, b, w')) (hi : i < v.length) :
    TkP g w v (i + 1, (c + g * v.getD i 0) / 4294967296, tkB g (w'.getD i 0) (v.getD i 0) c b, w'.set i (tkD g (w'.getD i 0) (v.getD i 0) c b)) := by
  obtain ⟨h1, h2, h3, h4, h5, h6, h7⟩ := h
  simp only at h1 h2 h3 h4 h5 h6 h7
  have hw := getD_of_drop h7
  have g1 := h5.getD i
  have g2 := hv.getD i
  have hd : tkD g (w'.getD i 0) (v.getD i 0) c b < 4294967296 := Nat.mod_lt _ (by omega)
  have key := take_step (g := g) (x := w'.getD i 0) (y := v.getD i 0) (c := c) (b := b) (d := tkD g (w'.getD i 0) (v.getD i 0) c b) (b' := tkB g (w'.getD i 0) (v.getD i 0) c b) hg g1 g2 h2 h3 (by
    unfold tkD tkB
    have hm : (c + g * v.getD i 0) % 4294967296 < 4294967296 := Nat.mod_lt _ (by omega)
    generalize (c + g * v.getD i 0) % 4294967296 = m at *
    generalize w'.getD i 0 = x at *
    clear h6 h7 hw hd
    split <;> omega) hd
  obtain ⟨k1, k2, k3⟩ := key
  rw [hw] at k1
  have hst := tk_step (w := w) (w' := w') (v := v) (g := g) (i := i) (by omega) h7 h6 (d := tkD g (w'.getD i 0) (v.getD i 0) c b) (b' := tkB g (w'.getD i 0) (v.getD i 0) c b) (c' := (c + g * v.getD i 0) / 4294967296) (by rw [hw]; exact k1)
  exact ⟨hi, k2, k3, by simp only [List.length_set]; exact h4, lows_set h5 hd, hst.1, hst.2⟩
/-- The last limb. -/
theorem TkP.fin {g : Nat} {w v : List Nat} (lw : w.length = v.length + 1) {c b : Nat} {w' : List Nat} (h : TkP g w v (v.length, c, b, w')) :
    let d := (18446744073709551616 + w'.getD v.length 0 - b - c) % 4294967296
    let neg := if w'.getD v.length 0 < b + c then 1 else 0
    d < 4294967296 ∧ (w'.set v.length d).length = w.length ∧ lows (w'.set v.length d) ∧ val (w'.set v.length d) + g * val v = val w + 4294967296 ^ (v.length + 1) * neg := by
  obtain ⟨h1, h2, h3, h4, h5, h6, h7⟩ := h
  simp only at h1 h2 h3 h4 h5 h6 h7
  intro d neg
  have hw := getD_of_drop h7
  have g1 := h5.getD v.length
  have hd : d < 4294967296 := Nat.mod_lt _ (by omega)
  refine ⟨hd, by rw [List.length_set]; omega, lows_set h5 hd, ?_⟩
  refine tk_fin lw h4 rfl h6 ?_
  rw [← hw]
  show (18446744073709551616 + w'.getD v.length 0 - b - c) % 4294967296 + (c + b) = w'.getD v.length 0 + 4294967296 * (if w'.getD v.length 0 < b + c then 1 else 0)
  generalize w'.getD v.length 0 = x at *
  clear h6 h7 hw hd
  split <;> omega
/-- What putting back does. -/
def AdP (w v : List Nat) (s : Nat × Nat × List Nat) : Prop := s.1 ≤ v.length ∧ s.2.1 ≤ 1 ∧ s.2.2.length = v.length + 1 ∧ lows s.2.2 ∧
  val (s.2.2.take s.1) + 4294967296 ^ s.1 * s.2.1 = val (w.take s.1) + val (v.take s.1) ∧ s.2.2.drop s.1 = w.drop s.1
theorem AdP.zero {w v : List Nat} (lw : w.length = v.length + 1) (hw : lows w) : AdP w v (0, 0, w) := ⟨Nat.zero_le _, by simp, lw, hw, by simp [val], rfl⟩
theorem AdP.next {w v : List Nat} (hv : lows v) {i c : Nat} {w' : List Nat} (h : AdP w v (i, c, w')) (hi : i < v.length) :
    AdP w v (i + 1, (c + (w'.getD i 0 + v.getD i 0)) / 4294967296, w'.set i ((c + (w'.getD i 0 + v.getD i 0)) % 4294967296)) := by
  obtain ⟨h1, h2, h3, h4, h5, h6⟩ := h
  simp only at h1 h2 h3 h4 h5 h6
  have hw := getD_of_drop h6
  have g1 := h4.getD i
  have g2 := hv.getD i
  have hst := ad_step (w := w) (w' := w') (v := v) (i := i) (by omega) h6 h5 (d := (c + (w'.getD i 0 + v.getD i 0)) % 4294967296) (c' := (c + (w'.getD i 0 + v.getD i 0)) / 4294967296) (by
    rw [← hw]
    clear h5 h6
    generalize w'.getD i 0 = x at *
    generalize v.getD i 0 = y at *
    clear hw
    omega)
  refine ⟨hi, ?_, by simp only [List.length_set]; exact h3, lows_set h4 (Nat.mod_lt _ (by omega)), hst.1, hst.2⟩
  show (c + (w'.getD i 0 + v.getD i 0)) / 4294967296 ≤ 1
  clear h5 h6 hst
  omega
theorem AdP.fin {w v : List Nat} (lw : w.length = v.length + 1) {c : Nat} {w' : List Nat} (h : AdP w v (v.length, c, w')) :
    (w'.set v.length ((w'.getD v.length 0 + c) % 4294967296)).length = w.length ∧ lows (w'.set v.length ((w'.getD v.length 0 + c) % 4294967296)) ∧
      val (w'.set v.length ((w'.getD v.length 0 + c) % 4294967296)) + 4294967296 ^ (v.length + 1) * ((w'.getD v.length 0 + c) / 4294967296) = val w + val v := by
  obtain ⟨h1, h2, h3, h4, h5, h6⟩ := h
  simp only at h1 h2 h3 h4 h5 h6
  have hw := getD_of_drop h6
  refine ⟨by rw [List.length_set]; omega, lows_set h4 (Nat.mod_lt _ (by omega)), ad_fin lw h3 rfl h5 ?_⟩
  rw [← hw]
  generalize w'.getD v.length 0 = x at *
  clear h5 h6 hw
  omega
/-- A division under way: k rounds are left. -/
def LongP (u v : List Nat) (k : Nat) (u' q : List Nat) : Prop := u'.length = u.length ∧ lows u' ∧ lows q ∧ q.length + v.length = u.length ∧ val (u'.drop k) < val v ∧ val u = val u' + 4294967296 ^ k * (val v * val (q.drop k))
theorem val_getD_drop {l : List Nat} {k : Nat} (h : k < l.length) : val (l.drop k) = l.getD k 0 + 4294967296 * val (l.drop (k + 1)) := by
  rw [List.drop_eq_getElem_cons h, val, List.getD_eq_getElem?_getD, List.getElem?_eq_getElem h]; rfl
theorem val_high {l : List Nat} {n : Nat} (h : val l < 4294967296 ^ n) (hn : n ≤ l.length) : val (l.drop n) = 0 := by
  have := val_cut l n hn
  rcases Nat.eq_zero_or_pos (val (l.drop n)) with e | e
  · exact e
  · have h2 : 4294967296 ^ n * 1 ≤ 4294967296 ^ n * val (l.drop n) := Nat.mul_le_mul_left _ e
    omega
/-- One round's parts. -/
theorem LongP.parts {u v : List Nat} (hv : lows v) {j : Nat} {u' q : List Nat} (h : LongP u v (j + 1) u' q) (hj : j < q.length) :
    ∃ p w r, u' = p ++ w ++ r ∧ p.length = j ∧ w.length = v.length + 1 ∧ lows w ∧ val r = 0 ∧ val w < 4294967296 * val v ∧ lows p ∧ lows r := by
  obtain ⟨h1, h2, h3, h4, h5, h6⟩ := h
  have hlen : j + 1 + v.length ≤ u'.length := by omega
  have hz : val (u'.drop (j + 1 + v.length)) = 0 := by
    rw [← List.drop_drop]
    exact val_high (Nat.lt_trans h5 (val_ltB hv)) (by rw [List.length_drop]; omega)
  refine ⟨u'.take j, (u'.drop j).take (v.length + 1), u'.drop (j + 1 + v.length), ?_, by rw [List.length_take]; omega, by rw [List.length_take, List.length_drop]; omega, lows_take (lows_drop h2 j) _, hz, ?_, lows_take h2 j, lows_drop h2 _⟩
  · rw [List.append_assoc, show j + 1 + v.length = j + (v.length + 1) by omega, ← List.drop_drop, List.take_append_drop, List.take_append_drop]
  · have e1 := val_cut (u'.drop j) (v.length + 1) (by rw [List.length_drop]; omega)
    rw [List.drop_drop, show j + (v.length + 1) = j + 1 + v.length by omega, hz, Nat.mul_zero, Nat.add_zero] at e1
    rw [← e1, val_getD_drop (by omega)]
    have g := h2.getD j
    generalize val (u'.drop (j + 1)) = a at *
    generalize val v = b at *
    clear h6
    omega
theorem LongP.next {u v : List Nat} {j g : Nat} {p w w1 r q : List Nat} (h : LongP u v (j + 1) (p ++ w ++ r) q) (hp : p.length = j) (hw : w.length = v.length + 1) (hw1 : w1.length = w.length) (l1 : lows w1) (hr : val r = 0) (hj : j < q.length) (hg : g < 4294967296)
    (e1 : val w / val v = g) (e2 : val w % val v = val w1) (hv : 0 < val v) : LongP u v j (p ++ w1 ++ r) (q.set j g) := by
  subst hp
  obtain ⟨h1, h2, h3, h4, h5, h6⟩ := h
  have lp : lows p := fun x hx => h2 x (by simp [hx])
  have lr : lows r := fun x hx => h2 x (by simp [hx])
  refine ⟨by rw [← h1]; simp [hw1], lows_app (lows_app lp l1) lr, lows_set h3 hg, by rw [List.length_set]; exact h4, ?_, ?_⟩
  · rw [List.append_assoc, List.drop_append_of_le_length (by omega), List.drop_length, List.nil_append, val_append, hr, Nat.mul_zero, Nat.add_zero, ← e2]
    exact Nat.mod_lt _ hv
  · rw [h6]
    have ha : ∀ z : List Nat, val (p ++ z ++ r) = val p + 4294967296 ^ p.length * val z := fun z => by
      rw [List.append_assoc, val_append, val_append, hr, Nat.mul_zero, Nat.add_zero]
    rw [ha, ha]
    have hq : val ((q.set p.length g).drop p.length) = g + 4294967296 * val (q.drop (p.length + 1)) := by
      rw [val_getD_drop (by rw [List.length_set]; exact hj), set_drop, List.getD_eq_getElem?_getD, List.getElem?_set_self hj]; rfl
    rw [hq, Nat.pow_succ]
    have e3 := Nat.div_add_mod (val w) (val v)
    rw [e1, e2] at e3
    rw [← e3]
    generalize val (q.drop (p.length + 1)) = a
    generalize 4294967296 ^ p.length = b
    generalize val v = c
    generalize val w1 = d
    generalize val p = e
    rw [Nat.mul_assoc b, Nat.mul_left_comm 4294967296 c a]
    simp only [Nat.mul_add]
    omega
theorem LongP.fin {u v u' q : List Nat} (h : LongP u v 0 u' q) : val q = val u / val v ∧ val u' = val u % val v := by
  obtain ⟨h1, h2, h3, h4, h5, h6⟩ := h
  rw [List.drop_zero] at h5 h6
  rw [Nat.pow_zero, Nat.one_mul] at h6
  have hpos : 0 < val v := by omega
  rw [h6, Nat.add_mul_div_left _ _ hpos, Nat.add_mul_mod_self_left, Nat.div_eq_of_lt h5, Nat.mod_eq_of_lt h5]
  exact ⟨by omega, rfl⟩
theorem LongP.zero {u v : List Nat} (hu : lows u) {m : Nat} (hm : m + v.length = u.length) (h : val (u.drop m) < val v) : LongP u v m u (List.replicate m 0) :=
  ⟨rfl, hu, lows_rep _, by simp; exact hm, h, by rw [List.drop_replicate, Nat.sub_self]; simp [val]⟩
end Go.Proofs.YtmcinfbckdiaoaaGreatDoor.Lv

set_option linter.unusedVariables false
set_option linter.unusedSimpArgs false
set_option maxRecDepth 100000
namespace Go.Proofs.YtmcinfbckdiaoaaGreatDoor.Lv
open Go Go.RowKit

/-- A digit's sign. -/
def dg (n : Nat) : UInt8 := UInt8.ofNat (48 + n)
theorem dg_toNat {n : Nat} (h : n < 10) : (dg n).toNat = 48 + n := by
  rw [dg, UInt8.toNat_ofNat', Nat.mod_eq_of_lt (by omega)]
def isDig (c : UInt8) : Bool := decide (48 ≤ c.toNat ∧ c.toNat ≤ 57)
theorem dg_of {c : UInt8} (h : isDig c = true) : ∃ n, n < 10 ∧ c = dg n := by
  simp only [isDig, decide_eq_true_eq] at h
  refine ⟨c.toNat - 48, by omega, UInt8.toNat_inj.1 ?_⟩
  rw [dg_toNat (by omega)]; omega
/-- The lowest k digits, the lowest first. -/
def lowd : Nat → Nat → List UInt8
  | 0, _ => []
  | k + 1, n => dg (n % 10) :: lowd k (n / 10)
/-- A number's digits, the lowest first. -/
def rdec (n : Nat) : List UInt8 := if h : n = 0 then [] else dg (n % 10) :: rdec (n / 10)
termination_by n
decreasing_by omega
def dec (n : Nat) : List UInt8 := if n = 0 then [48] else (rdec n).reverse
theorem rdec_zero : rdec 0 = [] := by rw [rdec]; simp
theorem rdec_pos {n : Nat} (h : n ≠ 0) : rdec n = dg (n % 10) :: rdec (n / 10) := by rw [rdec]; simp [h]
theorem lowd_len : ∀ k n, (lowd k n).length = k
  | 0, _ => rfl
  | k + 1, n => by rw [lowd, List.length_cons, lowd_len k]
theorem lowd_add : ∀ j k n, lowd (j + k) n = lowd j n ++ lowd k (n / 10 ^ j)
  | 0, k, n => by rw [Nat.zero_add, Nat.pow_zero, Nat.div_one]; rfl
  | j + 1, k, n => by
    rw [show j + 1 + k = (j + k) + 1 by omega, lowd, lowd, lowd_add j k, List.cons_append, Nat.div_div_eq_div_mul, Nat.pow_succ, Nat.mul_comm 10]
theorem lowd_mod : ∀ j n, lowd j (n % 10 ^ j) = lowd j n
  | 0, n => rfl
  | j + 1, n => by
    rw [lowd, lowd, Nat.pow_succ, Nat.mul_comm, Nat.mod_mul_right_div_self, lowd_mod j, Nat.mod_mul_right_mod]
/-- Without the noughts at its end. -/
theorem lowd_rdec : ∀ k n, n < 10 ^ k → ∃ z, lowd k n = rdec n ++ List.replicate z 48
  | 0, n, h => by
    obtain rfl : n = 0 := by simpa using h
    exact ⟨0, by rw [rdec_zero]; rfl⟩
  | k + 1, n, h => by
    obtain ⟨z, hz⟩ := lowd_rdec k (n / 10) (by rw [Nat.div_lt_iff_lt_mul (by omega), ← Nat.pow_succ]; exact h)
    by_cases h0 : n = 0
    · subst h0
      rw [Nat.zero_div, rdec_zero, List.nil_append] at hz
      exact ⟨z + 1, by rw [lowd, Nat.zero_div, hz, rdec_zero, List.replicate_succ]; rfl⟩
    · exact ⟨z, by rw [lowd, hz, rdec_pos h0, List.cons_append]⟩
theorem rdec_last {n : Nat} : ∀ k, k + 1 = (rdec n).length → (rdec n).getD k 0 ≠ 48 := by
  induction n using Nat.strongRecOn with
  | _ n ih =>
    intro k hk
    by_cases h0 : n = 0
    · subst h0; rw [rdec_zero] at hk; simp at hk
    · rw [rdec_pos h0] at hk ⊢
      rw [List.length_cons] at hk
      cases k with
      | zero =>
        have h1 : rdec (n / 10) = [] := List.length_eq_zero_iff.1 (by omega)
        have h2 : n / 10 = 0 := by
          by_cases h : n / 10 = 0
          · exact h
          · rw [rdec_pos h] at h1; cases h1
        rw [List.getD_cons_zero]
        intro h
        have := congrArg UInt8.toNat h
        rw [dg_toNat (by omega)] at this
        have : (48 : UInt8).toNat = 48 := rfl
        omega
      | succ k => rw [List.getD_cons_succ]; exact ih _ (by omega) k (by omega)
theorem snoc_ind {α : Type} {P : List α → Prop} (h0 : P []) (h1 : ∀ s c, P s → P (s ++ [c])) (s : List α) : P s := by
  have : ∀ l : List α, P l.reverse := fun l => by
    induction l with
    | nil => exact h0
    | cons c l ih => rw [List.reverse_cons]; exact h1 _ _ ih
  have h := this s.reverse
  rwa [List.reverse_reverse] at h
/-- What digits say, the greatest first. -/
def dval (s : List UInt8) : Nat := s.foldl (fun a c => a * 10 + (c.toNat - 48)) 0
theorem dval_snoc (s : List UInt8) (c : UInt8) : dval (s ++ [c]) = dval s * 10 + (c.toNat - 48) := by
  rw [dval, List.foldl_append]; rfl
/-- What is read as a number's digits. -/
structure NatTxt (s : List UInt8) : Prop where
  ne : s ≠ []
  most : s.length ≤ 4000
  first : s.getD 0 0 = 48 → s.length = 1
  dig : ∀ c ∈ s, isDig c = true
theorem dval_lt : ∀ (s : List UInt8), (∀ c ∈ s, isDig c = true) → dval s < 10 ^ s.length := by
  intro s
  induction s using snoc_ind with
  | h0 => intro _; exact Nat.one_pos
  | h1 s c ih =>
    intro h
    rw [dval_snoc, List.length_append, List.length_singleton, Nat.pow_succ]
    have h1 := ih fun x hx => h x (by simp [hx])
    obtain ⟨n, hn, rfl⟩ := dg_of (h c (by simp))
    rw [dg_toNat hn]
    generalize 10 ^ s.length = p at *
    omega
theorem rdec_dval : ∀ (s : List UInt8), (∀ c ∈ s, isDig c = true) → (s ≠ [] → s.getD 0 0 ≠ 48) → rdec (dval s) = s.reverse ∧ (s ≠ [] → dval s ≠ 0) := by
  intro s
  induction s using snoc_ind with
  | h0 => intro _ _; exact ⟨rdec_zero, fun h => absurd rfl h⟩
  | h1 s c ih =>
    intro h h0
    obtain ⟨n, hn, rfl⟩ := dg_of (h c (by simp))
    have e : (dg n).toNat - 48 = n := by rw [dg_toNat hn]; omega
    rw [dval_snoc, e, List.reverse_append, List.reverse_singleton]
    have hne : dval s * 10 + n ≠ 0 := by
      by_cases hs : s = []
      · subst hs
        have h1 := h0 (by simp)
        simp only [List.nil_append, List.getD_cons_zero] at h1
        have : n ≠ 0 := fun hz => h1 (by subst hz; rfl)
        omega
      · have := (ih (fun x hx => h x (by simp [hx])) (fun _ => by
          have h1 := h0 (by simp)
          rw [List.getD_eq_getElem?_getD, List.getElem?_append_left (List.length_pos_iff.2 hs)] at h1
          rw [List.getD_eq_getElem?_getD]; exact h1)).2 hs
        omega
    refine ⟨?_, fun _ => hne⟩
    rw [rdec_pos hne, show (dval s * 10 + n) % 10 = n by omega, show (dval s * 10 + n) / 10 = dval s by omega]
    by_cases hs : s = []
    · subst hs
      rw [show dval [] = 0 from rfl, rdec_zero]; rfl
    · rw [(ih (fun x hx => h x (by simp [hx])) (fun _ => by
        have h1 := h0 (by simp)
        rw [List.getD_eq_getElem?_getD, List.getElem?_append_left (List.length_pos_iff.2 hs)] at h1
        rw [List.getD_eq_getElem?_getD]; exact h1)).1]
      rfl
/-- What is read as a number is just its digits. -/
theorem dec_dval {s : List UInt8} (h : NatTxt s) : dec (dval s) = s := by
  by_cases h0 : s.getD 0 0 = 48
  · have hl := h.first h0
    match s, hl, h0 with
    | [c], _, h0 =>
      rw [List.getD_cons_zero] at h0
      subst h0
      rfl
  · obtain ⟨h1, h2⟩ := rdec_dval s h.dig fun _ => h0
    rw [dec, if_neg (h2 h.ne), h1, List.reverse_reverse]
end Go.Proofs.YtmcinfbckdiaoaaGreatDoor.Lv

set_option linter.unusedVariables false
set_option linter.unusedSimpArgs false
set_option maxRecDepth 100000
namespace Go.Proofs.YtmcinfbckdiaoaaGreatDoor.Lv
open Go Go.RowKit

/-- -1, 0, 1. -/
def sgI (x y : Int) : Int := if x < y then -1 else if x = y then 0 else 1
def sgQ (x y : Rat) : Int := if x < y then -1 else if x = y then 0 else 1
def zD (z : Int) : D := .agg [u32s (limbs z.natAbs), .bool (decide (z < 0))]
/-- The denominator, 0 standing for 1. -/
def qden (q : Rat) : Nat := if q.den = 1 then 0 else q.den
def qD (q : Rat) : D := .agg [u32s (limbs q.num.natAbs), .bool (decide (q.num < 0)), u32s (limbs (qden q))]
theorem sgQ_cross (a b : Rat) : sgI (a.num * b.den) (b.num * a.den) = sgQ a b := by
  unfold sgI sgQ
  have h1 := Rat.lt_iff a b
  have h2 : (a = b) ↔ (a.num * (b.den : Int) = b.num * (a.den : Int)) := Rat.eq_iff_mul_eq_mul
  by_cases h : a < b
  · rw [if_pos h, if_pos (h1.1 h)]
  · rw [if_neg h, if_neg (fun h' => h (h1.2 h'))]
    by_cases h' : a = b
    · rw [if_pos h', if_pos (h2.1 h')]
    · rw [if_neg h', if_neg (fun h'' => h' (h2.2 h''))]
/-- What a quotient by the least numbers is. -/
theorem mk_parts (n : Int) (d : Nat) (hd : d ≠ 0) : (mkRat n d).num.natAbs = n.natAbs / d.gcd n.natAbs ∧ ((mkRat n d).num < 0 ↔ n < 0) ∧ (mkRat n d).den = d / d.gcd n.natAbs := by
  have h1 := Rat.num_mkRat n d
  have h2 := Rat.den_mkRat n d
  rw [if_neg hd] at h1 h2
  have hg : 0 < d.gcd n.natAbs := Nat.gcd_pos_of_pos_left _ (by omega)
  have hdv : ((d.gcd n.natAbs : Nat) : Int) ∣ n := Int.ofNat_dvd_left.2 (Nat.gcd_dvd_right _ _)
  refine ⟨?_, ?_, h2⟩
  · rw [h1, Int.natAbs_ediv_of_dvd hdv, Int.natAbs_natCast]
  · rw [h1]
    obtain ⟨k, hk⟩ := hdv
    generalize d.gcd n.natAbs = g at *
    subst hk
    rw [Int.mul_ediv_cancel_left _ (by omega)]
    have hg' : (0 : Int) < g := by omega
    constructor
    · intro h; exact Int.mul_neg_of_pos_of_neg hg' h
    · intro h
      rcases (show k < 0 ∨ 0 ≤ k by omega) with h' | h'
      · exact h'
      · have := Int.mul_nonneg (Int.le_of_lt hg') h'; omega
theorem gcd_self_num (q : Rat) : q.den.gcd q.num.natAbs = 1 := by
  rw [Nat.gcd_comm]; exact q.reduced
end Go.Proofs.YtmcinfbckdiaoaaGreatDoor.Lv
