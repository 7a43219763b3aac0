/- sha.Hex: two digits for each byte. -/
import Derived.Test.YtpobbfhdkbnpmaaDoorSD
set_option linter.unusedVariables false
set_option linter.unusedSimpArgs false
set_option maxRecDepth 100000
set_option maxHeartbeats 4000000
namespace Go.Proofs.YtpobbfhdkbnpmaaDoor.Lv
open Go Go.RowKit

def digs : List UInt8 := [48, 49, 50, 51, 52, 53, 54, 55, 56, 57, 97, 98, 99, 100, 101, 102]
def hx (c : UInt8) : List UInt8 := [digs.getD (c.toNat / 16) 0, digs.getD (c.toNat % 16) 0]
def hex (s : List UInt8) : List UInt8 := s.flatMap hx
theorem hex_len : ∀ s, (hex s).length = 2 * s.length
  | [] => rfl
  | c :: s => by rw [hex, List.flatMap_cons, List.length_append]; have := hex_len s; rw [hex] at this; rw [this]; simp [hx]; omega
theorem bits_and15 (c : UInt8) : bits .u8 .and (c.toNat : Int) 15 = ((c.toNat % 16 : Nat) : Int) := by
  have : ∀ n : Fin 256, bits .u8 .and ((n.val : Nat) : Int) 15 = ((n.val % 16 : Nat) : Int) := by decide +kernel
  exact this ⟨c.toNat, c.toNat_lt⟩
theorem hex_take (s : List UInt8) (j : Nat) (h : j < s.length) : hex (s.take (j + 1)) = hex (s.take j) ++ hx (s.getD j 0) := by
  rw [hex, hex, List.take_add_one, List.flatMap_append, List.getElem?_eq_getElem h, List.getD_eq_getElem?_getD, List.getElem?_eq_getElem h]
  simp
theorem hx_map (c : UInt8) : ((hx c).map fun c => D.int .u8 (c.toNat : Int)) = [.int .u8 ((digs.getD (c.toNat / 16) 0).toNat : Int), .int .u8 ((digs.getD (c.toNat % 16) 0).toNat : Int)] := rfl
theorem sha_Hex (s : List UInt8) (hs : s.length < 1099511627776) : C E 18 [.str s] (.str (hex s)) := by
  refine CG_intro Tryd.func18 rfl (by kernel_rfl) rfl (by kernel_rfl) (by kernel_rfl) rfl ?_
  simp (maxSteps := 3000000) (disch := first | exact trivial | assumption | omega | exact RegOk.mk (by decide +kernel) | exact RegCl.mk (by decide +kernel) | exact RegNo.mk (by kernel_rfl)) only [go_sem, seval]
  refine AL.step ?_
  by_cases h0 : s = []
  · subst h0
    simp (maxSteps := 3000000) (disch := first | exact trivial | assumption | omega | exact RegOk.mk (by decide +kernel) | exact RegCl.mk (by decide +kernel) | exact RegNo.mk (by kernel_rfl)) only [go_sem, seval, bstr]
    exact LeV.of_eq rfl
  have hl0 : 0 < s.length := List.length_pos_iff.2 h0
  have hd : decide ((0 : Int) < (s.length : Int)) = true := by rw [decide_eq_true_eq]; omega
  have hc2 : ∀ c : UInt8, (((c.toNat % 16 : Nat) : Int) < 16) = True := fun c => eq_true (by omega)
  have hc1 : ∀ c : UInt8, (((c.toNat / 16 : Nat) : Int) < 16) = True := fun c => eq_true (by have := c.toNat_lt; omega)
  have hc0 : ∀ n : Nat, (0 ≤ (n : Int)) = True := fun n => eq_true (by omega)
  have hs1 : ∀ c : UInt8, ((c.toNat : Int) / 16) = ((c.toNat / 16 : Nat) : Int) := fun c => by omega
  simp (maxSteps := 3000000) (disch := first | exact trivial | assumption | omega | exact RegOk.mk (by decide +kernel) | exact RegCl.mk (by decide +kernel) | exact RegNo.mk (by kernel_rfl)) only [go_sem, seval, hd, bits_and15, hs1, hc0, hc1, hc2]
  refine ⟨.inl trivial, .inr trivial, ?_⟩
  refine AL.of (fun j : Nat => j + 1 ≤ s.length) (fun j => s.length - (j + 1)) (fun j => [(0, .str s), (3, .sl 1 j 0 (2 * (j + 1))), (6, .int .i64 (s.length : Int)), (7, .int .i64 ((j : Int) + 1))])
    (fun j => [(1, .row false j false 1 (2 * (j + 1)) (bR (hex (s.take (j + 1)))))]) 0 (by omega) ?_ ?_ ?_ ?_
  · simp (maxSteps := 3000000) (disch := first | exact trivial | assumption | omega | exact RegOk.mk (by decide +kernel) | exact RegCl.mk (by decide +kernel) | exact RegNo.mk (by kernel_rfl)) only [go_sem, seval]
  · simp (maxSteps := 3000000) (disch := first | exact trivial | assumption | omega | exact RegOk.mk (by decide +kernel) | exact RegCl.mk (by decide +kernel) | exact RegNo.mk (by kernel_rfl)) only [go_sem, seval]
    intro i hi
    rw [hex_take s 0 hl0]
    have := bR_app [] (hx (s.getD 0 0)) (i := i) (by simpa [hx] using hi)
    rw [if_neg (by simp), hx_map] at this
    exact Le.of_eq this
  · intro x _; simp (maxSteps := 3000000) (disch := first | exact trivial | assumption | omega | exact RegOk.mk (by decide +kernel) | exact RegCl.mk (by decide +kernel) | exact RegNo.mk (by kernel_rfl)) only [go_sem, seval]
  intro j hj
  by_cases h : j + 1 < s.length
  case pos =>
    have hd : decide ((j : Int) + 1 < (s.length : Int)) = true := by rw [decide_eq_true_eq]; omega
    have hj1 : ((j : Int) + 1).toNat = j + 1 := by omega
    simp (maxSteps := 3000000) (disch := first | exact trivial | assumption | omega | exact RegOk.mk (by decide +kernel) | exact RegCl.mk (by decide +kernel) | exact RegNo.mk (by kernel_rfl)) only [go_sem, seval, hd, hj1, bits_and15, hs1, hc0, hc1, hc2]
    refine ⟨.inl trivial, .inr trivial, by omega, by omega, j + 1, by omega, by show s.length - (j + 1 + 1) < s.length - (j + 1); omega, ?_, ?_⟩
    · simp (maxSteps := 3000000) (disch := first | exact trivial | assumption | omega | exact RegOk.mk (by decide +kernel) | exact RegCl.mk (by decide +kernel) | exact RegNo.mk (by kernel_rfl)) only [go_sem, seval]
      exact ⟨LeV.of_eq (by rw [show 2 * (j + 1) + 2 = 2 * (j + 1 + 1) by omega]), LeV.of_eq (by rw [Int.natCast_succ])⟩
    · simp (maxSteps := 3000000) (disch := first | exact trivial | assumption | omega | exact RegOk.mk (by decide +kernel) | exact RegCl.mk (by decide +kernel) | exact RegNo.mk (by kernel_rfl)) only [go_sem, seval]
      refine ⟨by omega, fun i hi => Le.of_eq ?_⟩
      have hlen : (hex (s.take (j + 1))).length = 2 * (j + 1) := by rw [hex_len, List.length_take]; omega
      have := bR_app (hex (s.take (j + 1))) (hx (s.getD (j + 1) 0)) (i := i) (by rw [List.length_append, hlen]; simpa [hx] using hi)
      rw [hlen, hx_map] at this
      rw [hex_take s (j + 1) h]
      exact this
  case neg =>
    have hd : decide ((j : Int) + 1 < (s.length : Int)) = false := by rw [decide_eq_false_iff_not]; omega
    simp (maxSteps := 3000000) (disch := first | exact trivial | assumption | omega | exact RegOk.mk (by decide +kernel) | exact RegCl.mk (by decide +kernel) | exact RegNo.mk (by kernel_rfl)) only [go_sem, seval, hd]
    rw [bstr_bR rfl (by rw [hex_len, List.length_take]; omega)]
    simp (maxSteps := 3000000) (disch := first | exact trivial | assumption | omega | exact RegOk.mk (by decide +kernel) | exact RegCl.mk (by decide +kernel) | exact RegNo.mk (by kernel_rfl)) only [go_sem, seval]
    exact LeV.of_eq (by rw [List.take_of_length_le (by omega)])
end Go.Proofs.YtpobbfhdkbnpmaaDoor.Lv
