/- Law 17: the law's helpers, the reference's digits. -/
import Derived.Test.YtpobbfhdkbnpmaaDoorSH
import Derived.Test.YtpobbfhdkbnpmaaDoorLvu
set_option linter.unusedVariables false
set_option linter.unusedSimpArgs false
set_option maxRecDepth 100000
set_option maxHeartbeats 4000000
namespace Go.Proofs.YtpobbfhdkbnpmaaDoor.Lv
open Go Go.RowKit

theorem tR_getD (l : List (List UInt8)) (i : Nat) : tR l i = .str (l.getD i []) := rfl
theorem flat_take (l : List (List UInt8)) (k : Nat) (h : k < l.length) : (l.take (k + 1)).flatten = (l.take k).flatten ++ l.getD k [] := by
  rw [List.take_add_one, List.flatten_append, List.getElem?_eq_getElem h, List.getD_eq_getElem?_getD, List.getElem?_eq_getElem h]
  simp
theorem flat_len (l : List (List UInt8)) (k : Nat) : (l.take k).flatten.length ≤ l.flatten.length := by
  conv => rhs; rw [← List.take_append_drop k l, List.flatten_append, List.length_append]
  omega
theorem law17_all (l : List (List UInt8)) (h : l.length ≤ 140737488355328) (hl : l.flatten.length < 1099511627776) : C E 13 [.ro false 1 l.length (tR l)] (.str l.flatten) := by
  refine CG_intro Tryd.func13 rfl (by kernel_rfl) rfl (by kernel_rfl) (by kernel_rfl) rfl ?_
  simp (maxSteps := 3000000) (disch := first | exact trivial | assumption | omega | exact RegOk.mk (by decide +kernel) | exact RegCl.mk (by decide +kernel) | exact RegNo.mk (by kernel_rfl)) only [go_sem, seval]
  refine AL.of (fun k : Nat => k ≤ l.length) (fun k => l.length - k) (fun k => [(0, .ro false 1 l.length (tR l)), (3, .str (l.take k).flatten), (4, .int .i64 k)])
    (fun _ => []) 0 (by omega) ?_ ?_ ?_ ?_
  · simp (maxSteps := 3000000) (disch := first | exact trivial | assumption | omega | exact RegOk.mk (by decide +kernel) | exact RegCl.mk (by decide +kernel) | exact RegNo.mk (by kernel_rfl)) only [go_sem, seval]
    exact LeV.of_eq rfl
  · trivial
  · intro x _; simp (maxSteps := 3000000) (disch := first | exact trivial | assumption | omega | exact RegOk.mk (by decide +kernel) | exact RegCl.mk (by decide +kernel) | exact RegNo.mk (by kernel_rfl)) only [go_sem, seval]
  intro k hk
  by_cases h : k = l.length
  · subst h
    simp (maxSteps := 3000000) (disch := first | exact trivial | assumption | omega | exact RegOk.mk (by decide +kernel) | exact RegCl.mk (by decide +kernel) | exact RegNo.mk (by kernel_rfl)) only [go_sem, seval, List.take_length]
  · have hf := flat_take l k (by omega)
    have h1 := flat_len l (k + 1)
    rw [hf, List.length_append] at h1
    have h2 : ((l.take k).flatten.length + (l.getD k []).length ≤ 9223372036854775807) = True := eq_true (by omega)
    simp (maxSteps := 3000000) (disch := first | exact trivial | assumption | omega | exact RegOk.mk (by decide +kernel) | exact RegCl.mk (by decide +kernel) | exact RegNo.mk (by kernel_rfl)) only [go_sem, seval, tR_getD, h2]
    refine ⟨k + 1, by omega, by show l.length - (k + 1) < l.length - k; omega, ?_, ?_⟩
    · simp (maxSteps := 3000000) (disch := first | exact trivial | assumption | omega | exact RegOk.mk (by decide +kernel) | exact RegCl.mk (by decide +kernel) | exact RegNo.mk (by kernel_rfl)) only [go_sem, seval, hf]
      exact LeV.of_eq (by rw [Int.natCast_succ])
    · trivial
theorem book_SameTexts (l : List (List UInt8)) (h : l.length ≤ 140737488355328) : C E 17 [.ro false 1 l.length (tR l), .ro false 1 l.length (tR l)] (.bool true) := by
  refine CG_intro Tryd.func17 rfl (by kernel_rfl) rfl (by kernel_rfl) (by kernel_rfl) rfl ?_
  simp (maxSteps := 3000000) (disch := first | exact trivial | assumption | omega | exact RegOk.mk (by decide +kernel) | exact RegCl.mk (by decide +kernel) | exact RegNo.mk (by kernel_rfl)) only [go_sem, seval]
  refine AL.of (fun k : Nat => k ≤ l.length) (fun k => l.length - k) (fun k => [(0, .ro false 1 l.length (tR l)), (1, .ro false 1 l.length (tR l)), (5, .int .i64 k)])
    (fun _ => []) 0 (by omega) ?_ ?_ ?_ ?_
  · simp (maxSteps := 3000000) (disch := first | exact trivial | assumption | omega | exact RegOk.mk (by decide +kernel) | exact RegCl.mk (by decide +kernel) | exact RegNo.mk (by kernel_rfl)) only [go_sem, seval]
  · trivial
  · intro x _; simp (maxSteps := 3000000) (disch := first | exact trivial | assumption | omega | exact RegOk.mk (by decide +kernel) | exact RegCl.mk (by decide +kernel) | exact RegNo.mk (by kernel_rfl)) only [go_sem, seval]
  intro k hk
  by_cases h : k = l.length
  · subst h
    simp (maxSteps := 3000000) (disch := first | exact trivial | assumption | omega | exact RegOk.mk (by decide +kernel) | exact RegCl.mk (by decide +kernel) | exact RegNo.mk (by kernel_rfl)) only [go_sem, seval]
  · have hn : ∀ x : List UInt8, (x != x) = false := fun x => by simp
    simp (maxSteps := 3000000) (disch := first | exact trivial | assumption | omega | exact RegOk.mk (by decide +kernel) | exact RegCl.mk (by decide +kernel) | exact RegNo.mk (by kernel_rfl)) only [go_sem, seval, tR_getD, hn]
    refine ⟨k + 1, by omega, by show l.length - (k + 1) < l.length - k; omega, ?_, ?_⟩
    · simp (maxSteps := 3000000) (disch := first | exact trivial | assumption | omega | exact RegOk.mk (by decide +kernel) | exact RegCl.mk (by decide +kernel) | exact RegNo.mk (by kernel_rfl)) only [go_sem, seval]
      exact LeV.of_eq (by rw [Int.natCast_succ])
    · trivial
theorem r2_Hex (s : List UInt8) (hs : s.length < 1099511627776) : C E 19 [.str s] (.str (hex s)) := by
  refine CG_intro Tryd.func19 rfl (by kernel_rfl) rfl (by kernel_rfl) (by kernel_rfl) rfl ?_
  simp (maxSteps := 3000000) (disch := first | exact trivial | assumption | omega | exact RegOk.mk (by decide +kernel) | exact RegCl.mk (by decide +kernel) | exact RegNo.mk (by kernel_rfl)) only [go_sem, seval]
  have hc2 : ∀ c : UInt8, (((c.toNat % 16 : Nat) : Int) < 16) = True := fun c => eq_true (by omega)
  have hc1 : ∀ c : UInt8, (((c.toNat / 16 : Nat) : Int) < 16) = True := fun c => eq_true (by have := c.toNat_lt; omega)
  have hc0 : ∀ n : Nat, (0 ≤ (n : Int)) = True := fun n => eq_true (by omega)
  have hs1 : ∀ c : UInt8, ((c.toNat : Int) / 16) = ((c.toNat / 16 : Nat) : Int) := fun c => by omega
  refine AL.ofN 3 false 1 (bR []) (fun j : Nat => j ≤ s.length) (fun j => s.length - j) (fun j => [(0, .str s), (3, .sl 0 j 0 (2 * j)), (4, .int .i64 j)])
    (fun j => [(0, .row false j false 1 (2 * j) (bR (hex (s.take j))))]) 0 (by kernel_rfl) (by omega) ?_ ?_ ?_ ?_
  · simp (maxSteps := 3000000) (disch := first | exact trivial | assumption | omega | exact RegOk.mk (by decide +kernel) | exact RegCl.mk (by decide +kernel) | exact RegNo.mk (by kernel_rfl)) only [go_sem, seval]
  · simp (maxSteps := 3000000) (disch := first | exact trivial | assumption | omega | exact RegOk.mk (by decide +kernel) | exact RegCl.mk (by decide +kernel) | exact RegNo.mk (by kernel_rfl)) only [go_sem, seval]
    exact fun i hi => absurd hi (by omega)
  · intro x _; simp (maxSteps := 3000000) (disch := first | exact trivial | assumption | omega | exact RegOk.mk (by decide +kernel) | exact RegCl.mk (by decide +kernel) | exact RegNo.mk (by kernel_rfl)) only [go_sem, seval]
  intro j hj
  by_cases h : j = s.length
  · subst h
    simp (maxSteps := 3000000) (disch := first | exact trivial | assumption | omega | exact RegOk.mk (by decide +kernel) | exact RegCl.mk (by decide +kernel) | exact RegNo.mk (by kernel_rfl)) only [go_sem, seval]
    rw [bstr_bR rfl (by rw [hex_len, List.length_take]; omega)]
    simp (maxSteps := 3000000) (disch := first | exact trivial | assumption | omega | exact RegOk.mk (by decide +kernel) | exact RegCl.mk (by decide +kernel) | exact RegNo.mk (by kernel_rfl)) only [go_sem, seval, List.take_length]
  · simp (maxSteps := 3000000) (disch := first | exact trivial | assumption | omega | exact RegOk.mk (by decide +kernel) | exact RegCl.mk (by decide +kernel) | exact RegNo.mk (by kernel_rfl)) only [go_sem, seval, bits_and15, hs1, hc0, hc1, hc2]
    refine ⟨.inl trivial, .inr trivial, by omega, by omega, j + 1, by omega, by show s.length - (j + 1) < s.length - j; omega, ?_, ?_⟩
    · simp (maxSteps := 3000000) (disch := first | exact trivial | assumption | omega | exact RegOk.mk (by decide +kernel) | exact RegCl.mk (by decide +kernel) | exact RegNo.mk (by kernel_rfl)) only [go_sem, seval]
      exact ⟨LeV.of_eq (by rw [show 2 * j + 2 = 2 * (j + 1) by omega]), LeV.of_eq (by rw [Int.natCast_succ])⟩
    · simp (maxSteps := 3000000) (disch := first | exact trivial | assumption | omega | exact RegOk.mk (by decide +kernel) | exact RegCl.mk (by decide +kernel) | exact RegNo.mk (by kernel_rfl)) only [go_sem, seval]
      refine ⟨by omega, fun i hi => Le.of_eq ?_⟩
      have hlen : (hex (s.take j)).length = 2 * j := by rw [hex_len, List.length_take]; omega
      have := bR_app (hex (s.take j)) (hx (s.getD j 0)) (i := i) (by rw [List.length_append, hlen]; simpa [hx] using hi)
      rw [hlen, hx_map] at this
      rw [hex_take s j (by omega)]
      exact this
end Go.Proofs.YtpobbfhdkbnpmaaDoor.Lv
