/- The feed, in whichever pieces: the stream. -/
import Derived.Test.YtpobbfhdkbnpmaaDoorHD
set_option linter.unusedVariables false
set_option linter.unusedSimpArgs false
set_option maxRecDepth 100000
set_option maxHeartbeats 4000000
namespace Go.Proofs.YtpobbfhdkbnpmaaDoor.Lv
open Go Go.RowKit

theorem take_snoc {α : Type} (l : List α) (k : Nat) (d : α) (h : k < l.length) : l.take (k + 1) = l.take k ++ [l.getD k d] := by
  rw [List.take_add_one, List.getD_eq_getElem?_getD, List.getElem?_eq_getElem h]; rfl
theorem getD_mem {α : Type} (l : List α) (k : Nat) (d : α) (h : k < l.length) : l.getD k d ∈ l := by
  rw [List.getD_eq_getElem?_getD, List.getElem?_eq_getElem h]; exact List.getElem_mem h
theorem law22_Stream (l : List (List UInt8)) (hl : l.length ≤ 8) (h : ∀ x ∈ l, x.length ≤ 150) : C E 27 [.ro false 1 l.length (tR l)] (.str (magic ++ strm l (sha magic))) := by
  refine CG_intro Tryd.func27 rfl (by kernel_rfl) rfl (by kernel_rfl) (by kernel_rfl) rfl ?_
  have hs := sha_length magic
  simp (maxSteps := 3000000) (disch := first | exact trivial | assumption | omega | exact RegOk.mk (by decide +kernel) | exact RegCl.mk (by decide +kernel) | exact RegNo.mk (by kernel_rfl)) only [go_sem, seval]
  refine callC seg_Begin (LesV.refl _) rfl ?_
  simp (maxSteps := 3000000) (disch := first | exact trivial | assumption | omega | exact RegOk.mk (by decide +kernel) | exact RegCl.mk (by decide +kernel) | exact RegNo.mk (by kernel_rfl)) only [go_sem, seval]
  refine AL.of (fun k : Nat => k ≤ l.length) (fun k => l.length - k) (fun k => [(0, .ro false 1 l.length (tR l)), (3, .str (magic ++ strm (l.take k) (sha magic))), (4, .str (digs_ (l.take k) (sha magic))), (5, .int .i64 k)])
    (fun _ => []) 0 (by omega) ?_ ?_ ?_ ?_
  · simp (maxSteps := 3000000) (disch := first | exact trivial | assumption | omega | exact RegOk.mk (by decide +kernel) | exact RegCl.mk (by decide +kernel) | exact RegNo.mk (by kernel_rfl)) only [go_sem, seval]
    exact ⟨LeV.of_eq (by simp [strm, magic]), LeV.refl _⟩
  · trivial
  · intro x _; simp (maxSteps := 3000000) (disch := first | exact trivial | assumption | omega | exact RegOk.mk (by decide +kernel) | exact RegCl.mk (by decide +kernel) | exact RegNo.mk (by kernel_rfl)) only [go_sem, seval]
  intro k hk
  by_cases hkl : k = l.length
  · subst hkl
    simp (maxSteps := 3000000) (disch := first | exact trivial | assumption | omega | exact RegOk.mk (by decide +kernel) | exact RegCl.mk (by decide +kernel) | exact RegNo.mk (by kernel_rfl)) only [go_sem, seval, List.take_length]
  · have hk' : k < l.length := by omega
    have hx := h _ (getD_mem l k [] hk')
    have ht := take_snoc l k [] hk'
    have h1 := strm_len (l.take k) (sha magic)
    have h2 := seglen_sum l h
    have h3 := sum_take (l.map seglen) k
    rw [← List.map_take] at h3
    have h4 := digs_len (l.take k) (sha magic) hs
    have h5 := segPut_len (digs_ (l.take k) (sha magic)) (l.getD k [])
    have h6 := seglen_le hx
    have hm : magic.length = 4 := rfl
    have h7 : ((magic ++ strm (l.take k) (sha magic)).length + (segPut (digs_ (l.take k) (sha magic)) (l.getD k [])).length ≤ 9223372036854775807) = True := eq_true (by rw [List.length_append]; omega)
    have h8 : (magic.length + (strm (l.take k) (sha magic)).length + (segPut (digs_ (l.take k) (sha magic)) (l.getD k [])).length ≤ 9223372036854775807) = True := eq_true (by omega)
    simp (maxSteps := 3000000) (disch := first | exact trivial | assumption | omega | exact RegOk.mk (by decide +kernel) | exact RegCl.mk (by decide +kernel) | exact RegNo.mk (by kernel_rfl)) only [go_sem, seval, tR_getD]
    refine callC (seg_Put _ _ (by omega) (by omega)) (LesV.refl _) rfl ?_
    simp (maxSteps := 3000000) (disch := first | exact trivial | assumption | omega | exact RegOk.mk (by decide +kernel) | exact RegCl.mk (by decide +kernel) | exact RegNo.mk (by kernel_rfl)) only [go_sem, seval, h7, h8]
    refine ⟨k + 1, by omega, by show l.length - (k + 1) < l.length - k; omega, ?_, ?_⟩
    · simp (maxSteps := 3000000) (disch := first | exact trivial | assumption | omega | exact RegOk.mk (by decide +kernel) | exact RegCl.mk (by decide +kernel) | exact RegNo.mk (by kernel_rfl)) only [go_sem, seval, ht, strm_snoc, digs_snoc, List.append_assoc]
      exact LeV.of_eq (by rw [Int.natCast_succ])
    · trivial
def iR (l : List Int) : Nat → D := fun i => .int .i64 (l.getD i 0)
def I64 (n : Int) : Prop := -9223372036854775808 ≤ n ∧ n ≤ 9223372036854775807
theorem exD_fd (r : Nat → Nat) (f : Fd) : exD r f.D = f.D := cl_ex r _ rfl
theorem imp_fd (ρ : Nat → Option Nat) (h : Hp) (f : Fd) : imp ρ h f.D = f.D := cl_imp ρ h _ rfl
theorem refs_fd (ρ : Nat → Option Nat) (f : Fd) : refs ρ f.D = [] := cl_refs ρ _ rfl
theorem posn_le (l : List (List UInt8)) (k : Nat) : posn l k ≤ 4 + (l.map seglen).sum := by
  have h3 := sum_take (l.map seglen) k
  rw [posn, List.map_take]
  omega
end Go.Proofs.YtpobbfhdkbnpmaaDoor.Lv
