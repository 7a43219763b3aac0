/- Law 17: ShaTells, ShaEdges. -/
import Derived.Test.YtpobbfhdkbnpmaaDoorSL
import Derived.Test.YtpobbfhdkbnpmaaDoorSJ
import Derived.Test.YtpobbfhdkbnpmaaDoorFH
set_option linter.unusedVariables false
set_option linter.unusedSimpArgs false
set_option maxRecDepth 100000
set_option maxHeartbeats 4000000
namespace Go.Proofs.YtpobbfhdkbnpmaaDoor.Lv
open Go Go.RowKit

theorem flat_words : flat words = true := by kernel_rfl
theorem cl_words : cl words = true := by kernel_rfl
theorem law_ShaTells (l : List (List UInt8)) (b : List UInt8) (hl : l.length ≤ 140737488355328) (hf : l.flatten.length < 1099511627776) : C E 3 [.ro false 1 l.length (tR l), .str b] (.bool true) := by
  refine CG_intro Tryd.func3 rfl (by kernel_rfl) rfl (by kernel_rfl) (by kernel_rfl) rfl ?_
  simp (maxSteps := 3000000) (disch := first | exact trivial | assumption | omega | exact RegOk.mk (by decide +kernel) | exact RegCl.mk (by decide +kernel) | exact RegNo.mk (by kernel_rfl)) only [go_sem, seval]
  refine callC law17_alive (LesV.refl _) rfl ?_
  simp (maxSteps := 3000000) (disch := first | exact trivial | assumption | omega | exact RegOk.mk (by decide +kernel) | exact RegCl.mk (by decide +kernel) | exact RegNo.mk (by kernel_rfl)) only [go_sem, seval]
  by_cases h1 : 30 < l.length
  · simp (maxSteps := 3000000) (disch := first | exact trivial | assumption | omega | exact RegOk.mk (by decide +kernel) | exact RegCl.mk (by decide +kernel) | exact RegNo.mk (by kernel_rfl)) only [go_sem, seval]
  simp (maxSteps := 3000000) (disch := first | exact trivial | assumption | omega | exact RegOk.mk (by decide +kernel) | exact RegCl.mk (by decide +kernel) | exact RegNo.mk (by kernel_rfl)) only [go_sem, seval]
  refine callC (law17_all l hl hf) (LesV.refl _) rfl ?_
  simp (maxSteps := 3000000) (disch := first | exact trivial | assumption | omega | exact RegOk.mk (by decide +kernel) | exact RegCl.mk (by decide +kernel) | exact RegNo.mk (by kernel_rfl)) only [go_sem, seval]
  by_cases h2 : 3000 < l.flatten.length
  · simp (maxSteps := 3000000) (disch := first | exact trivial | assumption | omega | exact RegOk.mk (by decide +kernel) | exact RegCl.mk (by decide +kernel) | exact RegNo.mk (by kernel_rfl)) only [go_sem, seval]
  by_cases h3 : 3000 < b.length
  · simp (maxSteps := 3000000) (disch := first | exact trivial | assumption | omega | exact RegOk.mk (by decide +kernel) | exact RegCl.mk (by decide +kernel) | exact RegNo.mk (by kernel_rfl)) only [go_sem, seval]
  simp (maxSteps := 3000000) (disch := first | exact trivial | assumption | omega | exact RegOk.mk (by decide +kernel) | exact RegCl.mk (by decide +kernel) | exact RegNo.mk (by kernel_rfl)) only [go_sem, seval]
  refine ⟨.inl trivial, .inr trivial, by omega, by omega, ?_⟩
  refine callC (sha_Sum l hl hf) ?_ rfl ?_
  · simp (maxSteps := 3000000) (disch := first | exact trivial | assumption | omega | exact RegOk.mk (by decide +kernel) | exact RegCl.mk (by decide +kernel) | exact RegNo.mk (by kernel_rfl)) only [go_sem, seval]
    try exact LesV_row fun j hj => rfl
  simp (maxSteps := 3000000) (disch := first | exact trivial | assumption | omega | exact RegOk.mk (by decide +kernel) | exact RegCl.mk (by decide +kernel) | exact RegNo.mk (by kernel_rfl)) only [go_sem, seval]
  refine callC r2_Table (LesV.refl _) cl_words ?_
  simp (maxSteps := 3000000) (disch := first | exact trivial | assumption | omega | exact RegOk.mk (by decide +kernel) | exact RegCl.mk (by decide +kernel) | exact RegNo.mk (by kernel_rfl)) only [go_sem, seval, flat_words]
  refine callC (law17_all l hl hf) (LesV.refl _) rfl ?_
  simp (maxSteps := 3000000) (disch := first | exact trivial | assumption | omega | exact RegOk.mk (by decide +kernel) | exact RegCl.mk (by decide +kernel) | exact RegNo.mk (by kernel_rfl)) only [go_sem, seval]
  refine callC (r2_Sum _ hf) (LesV.refl _) rfl ?_
  have he : ∀ x : List UInt8, (x == x) = true := fun x => by simp
  simp (maxSteps := 3000000) (disch := first | exact trivial | assumption | omega | exact RegOk.mk (by decide +kernel) | exact RegCl.mk (by decide +kernel) | exact RegNo.mk (by kernel_rfl)) only [go_sem, seval, he]
  refine callC (book_SameTexts l hl) ?_ rfl ?_
  · simp (maxSteps := 3000000) (disch := first | exact trivial | assumption | omega | exact RegOk.mk (by decide +kernel) | exact RegCl.mk (by decide +kernel) | exact RegNo.mk (by kernel_rfl)) only [go_sem, seval]
    try exact LesV.refl _
  simp (maxSteps := 3000000) (disch := first | exact trivial | assumption | omega | exact RegOk.mk (by decide +kernel) | exact RegCl.mk (by decide +kernel) | exact RegNo.mk (by kernel_rfl)) only [go_sem, seval]
  refine callC (sha_Hex b (by omega)) (LesV.refl _) rfl ?_
  simp (maxSteps := 3000000) (disch := first | exact trivial | assumption | omega | exact RegOk.mk (by decide +kernel) | exact RegCl.mk (by decide +kernel) | exact RegNo.mk (by kernel_rfl)) only [go_sem, seval]
  refine callC (r2_Hex b (by omega)) (LesV.refl _) rfl ?_
  simp (maxSteps := 3000000) (disch := first | exact trivial | assumption | omega | exact RegOk.mk (by decide +kernel) | exact RegCl.mk (by decide +kernel) | exact RegNo.mk (by kernel_rfl)) only [go_sem, seval, he]
theorem bR_fill (c : UInt8) (n i j : Nat) (hi : i < n) (hj : j < n) : (if j = i then D.int .u8 (c.toNat : Int) else bR (List.replicate i c ++ List.replicate (n - i) 0) j) = bR (List.replicate (i + 1) c ++ List.replicate (n - (i + 1)) 0) j := by
  have key : ∀ k, (List.replicate k c ++ List.replicate (n - k) (0 : UInt8)).getD j 0 = if j < k then c else 0 := fun k => by
    rw [List.getD_eq_getElem?_getD]
    by_cases h : j < k
    · rw [List.getElem?_append_left (by simpa using h), List.getElem?_replicate, if_pos h, if_pos h]; rfl
    · rw [List.getElem?_append_right (by simpa using h), List.getElem?_replicate, if_neg h]
      split <;> rfl
  simp only [bR, key]
  by_cases h : j = i
  · subst h; simp
  · rw [if_neg h]
    by_cases h2 : j < i
    · rw [if_pos h2, if_pos (by omega)]
    · rw [if_neg h2, if_neg (by omega)]
theorem law_ShaEdges (c : UInt8) (n : Int) (hn : -9223372036854775808 ≤ n ∧ n ≤ 9223372036854775807) : C E 5 [.int .u8 (c.toNat : Int), .int .i64 n] (.bool true) := by
  refine CG_intro Tryd.func5 rfl (by kernel_rfl) rfl (by kernel_rfl) (by kernel_rfl) rfl ?_
  obtain ⟨m, hm, h1, h2⟩ := within_nat n 50 140 (by omega)
  have hm' : within n 50 140 = (m : Int) := hm
  have hc := c.toNat_lt
  simp (maxSteps := 3000000) (disch := first | exact trivial | assumption | omega | exact RegOk.mk (by decide +kernel) | exact RegCl.mk (by decide +kernel) | exact RegNo.mk (by kernel_rfl)) only [go_sem, seval]
  refine callC (book_Within n 50 140 (by omega) (by omega) (by omega) hn) (LesV.refl _) rfl ?_
  simp (maxSteps := 3000000) (disch := first | exact trivial | assumption | omega | exact RegOk.mk (by decide +kernel) | exact RegCl.mk (by decide +kernel) | exact RegNo.mk (by kernel_rfl)) only [go_sem, seval, hm']
  refine ⟨by omega, by omega, by omega, ?_⟩
  refine AL.of (fun i : Nat => i ≤ m) (fun i => m - i) (fun i => [(0, .int .u8 (c.toNat : Int)), (1, .int .i64 m), (5, .sl 0 0 0 m), (6, .int .i64 i)])
    (fun i => [(0, .row false 0 false 1 m (bR (List.replicate i c ++ List.replicate (m - i) 0)))]) 0 (by omega) ?_ ?_ ?_ ?_
  · simp (maxSteps := 3000000) (disch := first | exact trivial | assumption | omega | exact RegOk.mk (by decide +kernel) | exact RegCl.mk (by decide +kernel) | exact RegNo.mk (by kernel_rfl)) only [go_sem, seval]
  · simp (maxSteps := 3000000) (disch := first | exact trivial | assumption | omega | exact RegOk.mk (by decide +kernel) | exact RegCl.mk (by decide +kernel) | exact RegNo.mk (by kernel_rfl)) only [go_sem, seval]
    intro i hi
    refine Le.of_eq ?_
    simp [bR, List.getD_eq_getElem?_getD, List.getElem?_replicate, hi]
  · intro x _; simp (maxSteps := 3000000) (disch := first | exact trivial | assumption | omega | exact RegOk.mk (by decide +kernel) | exact RegCl.mk (by decide +kernel) | exact RegNo.mk (by kernel_rfl)) only [go_sem, seval]
  intro i hi
  by_cases h : i = m
  · subst h
    have hr : List.replicate i c ++ List.replicate (i - i) (0 : UInt8) = List.replicate i c := by simp
    have hb : ∀ (h : Hp) f, f = bR (List.replicate i c) → lookB h 0 = some (.row false 0 false 1 i f) → bstr h (.sl 0 0 0 i) = some (.str (List.replicate i c)) := fun h f hf e => by
      rw [hf] at e; exact bstr_bR e (by simp)
    have hlen : (List.replicate i c).length < 1099511627776 := by simp; omega
    simp (maxSteps := 3000000) (disch := first | exact trivial | assumption | omega | exact RegOk.mk (by decide +kernel) | exact RegCl.mk (by decide +kernel) | exact RegNo.mk (by kernel_rfl)) only [go_sem, seval, hr]
    refine callCl law17_alive (LesV.refl _) rfl ?_
    simp (maxSteps := 3000000) (disch := first | exact trivial | assumption | omega | exact RegOk.mk (by decide +kernel) | exact RegCl.mk (by decide +kernel) | exact RegNo.mk (by kernel_rfl)) only [go_sem, seval]
    rw [hb _ _ rfl rfl]
    simp (maxSteps := 3000000) (disch := first | exact trivial | assumption | omega | exact RegOk.mk (by decide +kernel) | exact RegCl.mk (by decide +kernel) | exact RegNo.mk (by kernel_rfl)) only [go_sem, seval]
    refine callCl (sha_SumX [List.replicate i c] _ (by simp) (by simp) hlen) ?_ rfl ?_
    · simp (maxSteps := 3000000) (disch := first | exact trivial | assumption | omega | exact RegOk.mk (by decide +kernel) | exact RegCl.mk (by decide +kernel) | exact RegNo.mk (by kernel_rfl)) only [go_sem, seval]
      refine LesV_row fun j hj => ?_
      obtain rfl : j = 0 := by omega
      rfl
    simp (maxSteps := 3000000) (disch := first | exact trivial | assumption | omega | exact RegOk.mk (by decide +kernel) | exact RegCl.mk (by decide +kernel) | exact RegNo.mk (by kernel_rfl)) only [go_sem, seval]
    refine callCl r2_Table (LesV.refl _) cl_words ?_
    simp (maxSteps := 3000000) (disch := first | exact trivial | assumption | omega | exact RegOk.mk (by decide +kernel) | exact RegCl.mk (by decide +kernel) | exact RegNo.mk (by kernel_rfl)) only [go_sem, seval, flat_words]
    rw [hb _ _ rfl rfl]
    simp (maxSteps := 3000000) (disch := first | exact trivial | assumption | omega | exact RegOk.mk (by decide +kernel) | exact RegCl.mk (by decide +kernel) | exact RegNo.mk (by kernel_rfl)) only [go_sem, seval]
    refine callCl (r2_Sum _ hlen) (LesV.refl _) rfl ?_
    have he : ∀ x : List UInt8, (x == x) = true := fun x => by simp
    simp (maxSteps := 3000000) (disch := first | exact trivial | assumption | omega | exact RegOk.mk (by decide +kernel) | exact RegCl.mk (by decide +kernel) | exact RegNo.mk (by kernel_rfl)) only [go_sem, seval, he]
  · simp (maxSteps := 3000000) (disch := first | exact trivial | assumption | omega | exact RegOk.mk (by decide +kernel) | exact RegCl.mk (by decide +kernel) | exact RegNo.mk (by kernel_rfl)) only [go_sem, seval]
    refine ⟨i + 1, by omega, by show m - (i + 1) < m - i; omega, ?_, ?_⟩
    · simp (maxSteps := 3000000) (disch := first | exact trivial | assumption | omega | exact RegOk.mk (by decide +kernel) | exact RegCl.mk (by decide +kernel) | exact RegNo.mk (by kernel_rfl)) only [go_sem, seval]
      exact LeV.of_eq (by rw [Int.natCast_succ])
    · simp (maxSteps := 3000000) (disch := first | exact trivial | assumption | omega | exact RegOk.mk (by decide +kernel) | exact RegCl.mk (by decide +kernel) | exact RegNo.mk (by kernel_rfl)) only [go_sem, seval]
      exact fun j hj => Le.of_eq (bR_fill c m i j (by omega) hj)
end Go.Proofs.YtpobbfhdkbnpmaaDoor.Lv
