/- Law 17: ShaHex. -/
import Derived.Test.YtpobbfhdkbnpmaaDoorSH
set_option linter.unusedVariables false
set_option linter.unusedSimpArgs false
set_option maxRecDepth 100000
set_option maxHeartbeats 4000000
namespace Go.Proofs.YtpobbfhdkbnpmaaDoor.Lv
open Go Go.RowKit

theorem hx_inj {c d : UInt8} (h : hx c = hx d) : c = d := by
  have key : ∀ n : Fin 256, digs.idxOf (digs.getD (n.val / 16) 0) * 16 + digs.idxOf (digs.getD (n.val % 16) 0) = n.val := by decide +kernel
  simp only [hx, List.cons.injEq, and_true] at h
  have h1 := key ⟨c.toNat, c.toNat_lt⟩
  have h2 := key ⟨d.toNat, d.toNat_lt⟩
  simp only at h1 h2
  rw [h.1, h.2, h2] at h1
  exact UInt8.toNat_inj.1 h1.symm
theorem hex_inj : ∀ {a b : List UInt8}, hex a = hex b → a = b
  | [], [], _ => rfl
  | [], d :: b, h => by simp [hex, hx] at h
  | c :: a, [], h => by simp [hex, hx] at h
  | c :: a, d :: b, h => by
    rw [hex, hex, List.flatMap_cons, List.flatMap_cons] at h
    obtain ⟨h1, h2⟩ := List.append_inj h rfl
    rw [hx_inj h1, hex_inj h2]
theorem hex_app (a b : List UInt8) : hex (a ++ b) = hex a ++ hex b := List.flatMap_append
theorem law_ShaHex (a b : List UInt8) : C E 6 [.str a, .str b] (.bool true) := by
  refine CG_intro Tryd.func6 rfl (by kernel_rfl) rfl (by kernel_rfl) (by kernel_rfl) rfl ?_
  simp (maxSteps := 3000000) (disch := first | exact trivial | assumption | omega | exact RegOk.mk (by decide +kernel) | exact RegCl.mk (by decide +kernel) | exact RegNo.mk (by kernel_rfl)) only [go_sem, seval]
  refine callC law17_alive (LesV.refl _) rfl ?_
  simp (maxSteps := 3000000) (disch := first | exact trivial | assumption | omega | exact RegOk.mk (by decide +kernel) | exact RegCl.mk (by decide +kernel) | exact RegNo.mk (by kernel_rfl)) only [go_sem, seval]
  by_cases h1 : 500 < a.length
  · have h1' : decide ((500 : Int) < (a.length : Int)) = true := by rw [decide_eq_true_eq]; omega
    simp (maxSteps := 3000000) (disch := first | exact trivial | assumption | omega | exact RegOk.mk (by decide +kernel) | exact RegCl.mk (by decide +kernel) | exact RegNo.mk (by kernel_rfl)) only [go_sem, seval, h1']
  have h1' : decide ((500 : Int) < (a.length : Int)) = false := by rw [decide_eq_false_iff_not]; omega
  by_cases h2 : 500 < b.length
  · have h2' : decide ((500 : Int) < (b.length : Int)) = true := by rw [decide_eq_true_eq]; omega
    simp (maxSteps := 3000000) (disch := first | exact trivial | assumption | omega | exact RegOk.mk (by decide +kernel) | exact RegCl.mk (by decide +kernel) | exact RegNo.mk (by kernel_rfl)) only [go_sem, seval, h1', h2']
  have h2' : decide ((500 : Int) < (b.length : Int)) = false := by rw [decide_eq_false_iff_not]; omega
  simp (maxSteps := 3000000) (disch := first | exact trivial | assumption | omega | exact RegOk.mk (by decide +kernel) | exact RegCl.mk (by decide +kernel) | exact RegNo.mk (by kernel_rfl)) only [go_sem, seval, h1', h2']
  have len : ∀ s : List UInt8, s.length ≤ 1000 → s.length < 1099511627776 := fun s h => by omega
  refine callC (sha_Hex a (len _ (by omega))) (LesV.refl _) rfl ?_
  have hl : (((hex a).length : Nat) : Int) = 2 * (a.length : Int) := by rw [hex_len]; omega
  simp (maxSteps := 3000000) (disch := first | exact trivial | assumption | omega | exact RegOk.mk (by decide +kernel) | exact RegCl.mk (by decide +kernel) | exact RegNo.mk (by kernel_rfl)) only [go_sem, seval, hl]
  refine callC (sha_Hex (a ++ b) (len _ (by rw [List.length_append]; omega))) (LesV.refl _) rfl ?_
  simp (maxSteps := 3000000) (disch := first | exact trivial | assumption | omega | exact RegOk.mk (by decide +kernel) | exact RegCl.mk (by decide +kernel) | exact RegNo.mk (by kernel_rfl)) only [go_sem, seval]
  refine callC (sha_Hex b (len _ (by omega))) (LesV.refl _) rfl ?_
  have hb : ((hex a).length + (hex b).length ≤ 9223372036854775807) = True := eq_true (by rw [hex_len, hex_len]; omega)
  simp (maxSteps := 3000000) (disch := first | exact trivial | assumption | omega | exact RegOk.mk (by decide +kernel) | exact RegCl.mk (by decide +kernel) | exact RegNo.mk (by kernel_rfl)) only [go_sem, seval, hex_app, hb]
  refine callC (sha_Hex b (len _ (by omega))) (LesV.refl _) rfl ?_
  have he : (hex a == hex b) = (a == b) := by
    rw [Bool.eq_iff_iff, beq_iff_eq, beq_iff_eq]
    exact ⟨hex_inj, fun h => by rw [h]⟩
  simp (maxSteps := 3000000) (disch := first | exact trivial | assumption | omega | exact RegOk.mk (by decide +kernel) | exact RegCl.mk (by decide +kernel) | exact RegNo.mk (by kernel_rfl)) only [go_sem, seval, he]
  trace_state
end Go.Proofs.YtpobbfhdkbnpmaaDoor.Lv
