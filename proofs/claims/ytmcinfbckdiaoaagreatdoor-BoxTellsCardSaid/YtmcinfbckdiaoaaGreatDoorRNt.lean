/- The law of a box' texts. -/
import Derived.Test.YtmcinfbckdiaoaaGreatDoorRc
import Derived.Test.YtmcinfbckdiaoaaGreatDoorRd
set_option linter.unusedVariables false
set_option linter.unusedSimpArgs false
set_option maxRecDepth 100000
set_option maxHeartbeats 4000000
namespace Go.Proofs.YtmcinfbckdiaoaaGreatDoor.Lv
open Go Go.RowKit
theorem book_SamePairs (l : List (Txt × Txt)) (hl : l.length < 1073741824) : C E 22 [txD l, txD l] (.bool true) := by
  refine CG_intro Tryz.func22 rfl (by kernel_rfl) rfl (by kernel_rfl) (by kernel_rfl) rfl ?_
  simp (maxSteps := 3000000) (disch := first | exact trivial | assumption | omega | exact RegOk.mk (by decide +kernel) | exact RegCl.mk (by decide +kernel) | exact RegNo.mk (by kernel_rfl)) only [go_sem, seval, txD]
  refine AL.of (fun i : Nat => i ≤ l.length) (fun i => l.length - i) (fun i => [(0, txD l), (1, txD l), (5, .int .i64 i)]) (fun _ => []) 0 (Nat.zero_le _) ?_ ?_ ?_ ?_
  · simp (maxSteps := 3000000) (disch := first | exact trivial | assumption | omega | exact RegOk.mk (by decide +kernel) | exact RegCl.mk (by decide +kernel) | exact RegNo.mk (by kernel_rfl)) only [go_sem, seval, txD]
    try exact LeV.refl _
  · simp (maxSteps := 3000000) (disch := first | exact trivial | assumption | omega | exact RegOk.mk (by decide +kernel) | exact RegCl.mk (by decide +kernel) | exact RegNo.mk (by kernel_rfl)) only [go_sem, seval]
  · intro x _; simp (maxSteps := 3000000) (disch := first | exact trivial | assumption | omega | exact RegOk.mk (by decide +kernel) | exact RegCl.mk (by decide +kernel) | exact RegNo.mk (by kernel_rfl)) only [go_sem, seval]
  intro i hi
  by_cases hil : i = l.length
  · subst hil
    simp (maxSteps := 3000000) (disch := first | exact trivial | assumption | omega | exact RegOk.mk (by decide +kernel) | exact RegCl.mk (by decide +kernel) | exact RegNo.mk (by kernel_rfl)) only [go_sem, seval, txD]
  · have hil' : i < l.length := by omega
    have hp : txR l i = .agg [.str (l.getD i ([], [])).1, .str (l.getD i ([], [])).2] := rfl
    generalize l.getD i ([], []) = p at *
    simp (maxSteps := 3000000) (disch := first | exact trivial | assumption | omega | exact RegOk.mk (by decide +kernel) | exact RegCl.mk (by decide +kernel) | exact RegNo.mk (by kernel_rfl)) only [go_sem, seval, txD, hp]
    refine ⟨i + 1, hil', by show l.length - (i + 1) < l.length - i; omega, ?_, ?_⟩
    · simp (maxSteps := 3000000) (disch := first | exact trivial | assumption | omega | exact RegOk.mk (by decide +kernel) | exact RegCl.mk (by decide +kernel) | exact RegNo.mk (by kernel_rfl)) only [go_sem, seval, txD]
      try exact LeV_int (by omega)
    · simp (maxSteps := 3000000) (disch := first | exact trivial | assumption | omega | exact RegOk.mk (by decide +kernel) | exact RegCl.mk (by decide +kernel) | exact RegNo.mk (by kernel_rfl)) only [go_sem, seval]
theorem span_Plain {p : Rat × Rat} (h1 : qb 40000000 p.1) (h2 : qb 40000000 p.2) : C E 67 [sD p] (.agg [.str (decQ p.1), .str (decQ p.2)]) := by
  refine CG_intro Tryz.func67 rfl (by kernel_rfl) rfl (by kernel_rfl) (by kernel_rfl) rfl ?_
  have h1 := rat_Text h1
  have h2 := rat_Text h2
  simp (maxSteps := 3000000) (disch := first | exact trivial | assumption | omega | exact RegOk.mk (by decide +kernel) | exact RegCl.mk (by decide +kernel) | exact RegNo.mk (by kernel_rfl)) only [go_sem, seval]
  refine callCl h1 ?_ rfl ?_
  · simp (maxSteps := 3000000) (disch := first | exact trivial | assumption | omega | exact RegOk.mk (by decide +kernel) | exact RegCl.mk (by decide +kernel) | exact RegNo.mk (by kernel_rfl)) only [go_sem, seval]
    try exact LesV.refl _
  simp (maxSteps := 3000000) (disch := first | exact trivial | assumption | omega | exact RegOk.mk (by decide +kernel) | exact RegCl.mk (by decide +kernel) | exact RegNo.mk (by kernel_rfl)) only [go_sem, seval]
  refine callCl h2 ?_ rfl ?_
  · simp (maxSteps := 3000000) (disch := first | exact trivial | assumption | omega | exact RegOk.mk (by decide +kernel) | exact RegCl.mk (by decide +kernel) | exact RegNo.mk (by kernel_rfl)) only [go_sem, seval]
    try exact LesV.refl _
  simp (maxSteps := 3000000) (disch := first | exact trivial | assumption | omega | exact RegOk.mk (by decide +kernel) | exact RegCl.mk (by decide +kernel) | exact RegNo.mk (by kernel_rfl)) only [go_sem, seval]
  try exact LeV.refl _
def plQ (p : Rat × Rat) : Txt × Txt := (decQ p.1, decQ p.2)
theorem txR_snoc {w : List (Txt × Txt)} {d : Txt × Txt} {j n : Nat} (hn : w.length = n) (hj : j < n + 1) : (if j < n then txR w j else [D.agg [.str d.1, .str d.2]].getD (j - n) .unk) = txR (w ++ [d]) j := by
  unfold txR
  by_cases h : j < n
  · rw [if_pos h, List.getD_eq_getElem?_getD, List.getD_eq_getElem?_getD, List.getElem?_append_left (by omega)]
  · rw [if_neg h, List.getD_eq_getElem?_getD (l := w ++ [d]), List.getElem?_append_right (by omega), hn, show j - n = 0 by omega]
    rfl
theorem box_Plain {l : List (Rat × Rat)} (hq : ∀ p ∈ l, qb 40000000 p.1 ∧ qb 40000000 p.2) (hl : l.length < 1073741824) : C E 25 [bxD l] (txD (l.map plQ)) := by
  refine CG_intro Tryz.func25 rfl (by kernel_rfl) rfl (by kernel_rfl) (by kernel_rfl) rfl ?_
  simp (maxSteps := 3000000) (disch := first | exact trivial | assumption | omega | exact RegOk.mk (by decide +kernel) | exact RegCl.mk (by decide +kernel) | exact RegNo.mk (by kernel_rfl)) only [go_sem, seval, bxD]
  refine AL.ofN 3 true 2 (fun _ => .unk) (fun i : Nat => i ≤ l.length) (fun i => l.length - i) (fun i => [(3, .sl 0 i 0 i), (6, bxD l), (7, .int .i64 l.length), (8, .int .i64 i)]) (fun i => [(0, .row false i true 2 i (txR ((l.take i).map plQ)))]) 0 (by simp (maxSteps := 3000000) (disch := first | exact trivial | assumption | omega | exact RegOk.mk (by decide +kernel) | exact RegCl.mk (by decide +kernel) | exact RegNo.mk (by kernel_rfl)) only [go_sem, seval]) (Nat.zero_le _) ?_ ?_ ?_ ?_
  · simp (maxSteps := 3000000) (disch := first | exact trivial | assumption | omega | exact RegOk.mk (by decide +kernel) | exact RegCl.mk (by decide +kernel) | exact RegNo.mk (by kernel_rfl)) only [go_sem, seval, bxD]
    try exact LeV.refl _
  · simp (maxSteps := 3000000) (disch := first | exact trivial | assumption | omega | exact RegOk.mk (by decide +kernel) | exact RegCl.mk (by decide +kernel) | exact RegNo.mk (by kernel_rfl)) only [go_sem, seval]
    try exact fun j hj => absurd hj (by omega)
  · intro x _; simp (maxSteps := 3000000) (disch := first | exact trivial | assumption | omega | exact RegOk.mk (by decide +kernel) | exact RegCl.mk (by decide +kernel) | exact RegNo.mk (by kernel_rfl)) only [go_sem, seval]
  intro i hi
  by_cases hil : i = l.length
  · subst hil
    simp (maxSteps := 3000000) (disch := first | exact trivial | assumption | omega | exact RegOk.mk (by decide +kernel) | exact RegCl.mk (by decide +kernel) | exact RegNo.mk (by kernel_rfl)) only [go_sem, seval, bxD, txD]
    refine LeV.ro (by simp) fun j hj => ?_
    rw [List.take_length]
    exact Le.refl _
  · have hil' : i < l.length := by omega
    have hm : l.getD i (0, 0) ∈ l := by
      rw [List.getD_eq_getElem?_getD, List.getElem?_eq_getElem hil']; exact List.getElem_mem hil'
    have hp : pR l i = sD (l.getD i (0, 0)) := rfl
    obtain ⟨q1, q2⟩ := hq _ hm
    have h := span_Plain q1 q2
    have ht : (l.take (i + 1)).map plQ = (l.take i).map plQ ++ [plQ (l.getD i (0, 0))] := by
      rw [List.take_add_one, List.getElem?_eq_getElem hil', List.map_append, List.getD_eq_getElem?_getD, List.getElem?_eq_getElem hil']; rfl
    generalize l.getD i (0, 0) = p at *
    simp (maxSteps := 3000000) (disch := first | exact trivial | assumption | omega | exact RegOk.mk (by decide +kernel) | exact RegCl.mk (by decide +kernel) | exact RegNo.mk (by kernel_rfl)) only [go_sem, seval, bxD, hp]
    refine callC h ?_ rfl ?_
    · simp (maxSteps := 3000000) (disch := first | exact trivial | assumption | omega | exact RegOk.mk (by decide +kernel) | exact RegCl.mk (by decide +kernel) | exact RegNo.mk (by kernel_rfl)) only [go_sem, seval]
      try exact LesV.refl _
    simp (maxSteps := 3000000) (disch := first | exact trivial | assumption | omega | exact RegOk.mk (by decide +kernel) | exact RegCl.mk (by decide +kernel) | exact RegNo.mk (by kernel_rfl)) only [go_sem, seval, bxD]
    refine ⟨.inl trivial, .inr trivial, by omega, by omega, ?_⟩
    refine ⟨i + 1, hil', by show l.length - (i + 1) < l.length - i; omega, ?_, ?_⟩
    · simp (maxSteps := 3000000) (disch := first | exact trivial | assumption | omega | exact RegOk.mk (by decide +kernel) | exact RegCl.mk (by decide +kernel) | exact RegNo.mk (by kernel_rfl)) only [go_sem, seval, bxD]
      try exact LeV_int (by omega)
    · simp (maxSteps := 3000000) (disch := first | exact trivial | assumption | omega | exact RegOk.mk (by decide +kernel) | exact RegCl.mk (by decide +kernel) | exact RegNo.mk (by kernel_rfl)) only [go_sem, seval, ht]
      exact fun j hj => Le.of_eq (txR_snoc (d := plQ p) (by rw [List.length_map, List.length_take]; omega) hj)
end Go.Proofs.YtmcinfbckdiaoaaGreatDoor.Lv
