/- Numbers of limbs: the plain law. -/
import Derived.Test.YtpobbfhdkbnpmaaDoorLc
set_option linter.unusedVariables false
set_option linter.unusedSimpArgs false
namespace Go.Proofs.YtpobbfhdkbnpmaaDoor.Lv
open Go Go.RowKit

/-- The limbs of a number, the lowest first. -/
def limbs (n : Nat) : List Nat := if h : n = 0 then [] else n % 4294967296 :: limbs (n / 4294967296)
termination_by n
decreasing_by omega
def val : List Nat → Nat
  | [] => 0
  | x :: r => x + 4294967296 * val r
def lows (l : List Nat) : Prop := ∀ x ∈ l, x < 4294967296
/-- A row of limbs. -/
def u32s (l : List Nat) : D := .ro false 1 l.length fun i => .int .u32 ((l.getD i 0 : Nat) : Int)
def natD (n : Nat) : D := .agg [u32s (limbs n)]

theorem limbs_zero : limbs 0 = [] := by unfold limbs; simp
theorem limbs_pos {n : Nat} (h : n ≠ 0) : limbs n = n % 4294967296 :: limbs (n / 4294967296) := by rw [limbs]; simp [h]
theorem val_limbs (n : Nat) : val (limbs n) = n := by
  induction n using Nat.strongRecOn with
  | _ n ih =>
    by_cases h : n = 0
    · subst h; rw [limbs_zero]; rfl
    · rw [limbs_pos h]
      simp only [val]
      rw [ih _ (by omega)]
      omega
theorem limbs_low (n : Nat) : lows (limbs n) := by
  induction n using Nat.strongRecOn with
  | _ n ih =>
    by_cases h : n = 0
    · subst h; rw [limbs_zero]; intro x hx; cases hx
    · rw [limbs_pos h]
      intro x hx
      rcases List.mem_cons.1 hx with rfl | hx
      · omega
      · exact ih _ (by omega) x hx
theorem val_append (a b : List Nat) : val (a ++ b) = val a + 4294967296 ^ a.length * val b := by
  induction a with
  | nil => simp [val]
  | cons x a ih => simp only [List.cons_append, val, ih, List.length_cons, Nat.pow_succ, Nat.mul_add, Nat.mul_assoc, Nat.mul_comm, Nat.mul_left_comm, Nat.add_assoc]
theorem val_zero_iff {l : List Nat} : val l = 0 ↔ ∀ x ∈ l, x = 0 := by
  induction l with
  | nil => simp [val]
  | cons x l ih => simp only [val, List.forall_mem_cons, ← ih]; omega
theorem lows.cons {x : Nat} {l : List Nat} (h : lows (x :: l)) : x < 4294967296 ∧ lows l := ⟨h x (by simp), fun y hy => h y (by simp [hy])⟩
/-- Limbs whose last is not nought are a number's own. -/
theorem limbs_val {l : List Nat} (hl : lows l) (h : ∀ k, k + 1 = l.length → l.getD k 0 ≠ 0) : limbs (val l) = l := by
  induction l with
  | nil => exact limbs_zero
  | cons x l ih =>
    obtain ⟨h1, h2⟩ := hl.cons
    have ih' := ih h2 fun k hk => by
      have := h (k + 1) (by simp; omega)
      simpa using this
    have hne : val (x :: l) ≠ 0 := by
      intro e
      have := val_zero_iff.1 e
      have h3 := h l.length (by simp)
      rw [List.getD_eq_getElem?_getD] at h3
      have h4 : (x :: l)[l.length]? = some ((x :: l)[l.length]'(by simp)) := List.getElem?_eq_getElem (by simp)
      rw [h4] at h3
      exact h3 (this _ (List.getElem_mem _))
    rw [limbs_pos hne]
    simp only [val]
    rw [show (x + 4294967296 * val l) % 4294967296 = x by omega, show (x + 4294967296 * val l) / 4294967296 = val l by omega, ih']
theorem val_take {l : List Nat} {k : Nat} (hk : k < l.length) (h : l.getD k 0 = 0) : val (l.take (k + 1)) = val (l.take k) := by
  have : l.take (k + 1) = l.take k ++ [l.getD k 0] := by
    rw [List.take_add_one, List.getD_eq_getElem?_getD, List.getElem?_eq_getElem hk]
    rfl
  rw [this, val_append, h]
  simp [val]
theorem lows.take {l : List Nat} (h : lows l) (k : Nat) : lows (l.take k) := fun x hx => h x (List.mem_of_mem_take hx)
theorem lows.getD {l : List Nat} (h : lows l) (k : Nat) : l.getD k 0 < 4294967296 := by
  rw [List.getD_eq_getElem?_getD]
  cases hk : l[k]? with
  | none => simp
  | some x => exact h x (List.mem_of_getElem? hk)
theorem getD_take {l : List Nat} {k i : Nat} (h : i < k) : (l.take k).getD i 0 = l.getD i 0 := by
  rw [List.getD_eq_getElem?_getD, List.getD_eq_getElem?_getD, List.getElem?_take, if_pos h]
/-- How many limbs. -/
def nb (n : Nat) : Nat := (limbs n).length
theorem nb_lt {n k : Nat} : nb n ≤ k ↔ n < 4294967296 ^ k := by
  unfold nb
  induction k generalizing n with
  | zero =>
    by_cases h : n = 0
    · subst h; simp [limbs_zero]
    · rw [limbs_pos h]; simp [h]
  | succ k ih =>
    by_cases h : n = 0
    · subst h; simp [limbs_zero, Nat.pow_pos]
    · rw [limbs_pos h, List.length_cons, Nat.pow_succ, Nat.add_le_add_iff_right, ih]
      exact Nat.div_lt_iff_lt_mul (by omega)
/- What reckoning asks of the shapes. -/
section
variable (n : Nat) (l : List Nat) (h : Hp) (ρ : Nat → Option Nat)
theorem cl_nat : cl (natD n) = true := Eq.trans rfl rfl
theorem flat_nat : flat (natD n) = false := Eq.trans rfl rfl
theorem imp_nat : imp ρ h (natD n) = natD n := Eq.trans rfl rfl
theorem refs_nat : refs ρ (natD n) = [] := Eq.trans rfl rfl
theorem asAgg_nat : asAgg (natD n) = some [u32s (limbs n)] := Eq.trans rfl rfl
theorem one_nat : one h (natD n) = false := Eq.trans rfl rfl
theorem cl_u32s : cl (u32s l) = true := Eq.trans rfl rfl
theorem flat_u32s : flat (u32s l) = false := Eq.trans rfl rfl
theorem imp_u32s : imp ρ h (u32s l) = u32s l := Eq.trans rfl rfl
theorem refs_u32s : refs ρ (u32s l) = [] := Eq.trans rfl rfl
theorem one_u32s : one h (u32s l) = true := Eq.trans rfl rfl
end

end Go.Proofs.YtpobbfhdkbnpmaaDoor.Lv
