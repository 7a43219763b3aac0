/- The book's Pairs, Within; the law's Of. Bounds of halves. The program's Neg, Sub, Width, Widest; the first call of law 6. The first call of law 6; the law of the widest side. -/
import Derived.Test.YtmcinfbckdiaoaaGreatDoorRb
import Derived.Test.YtmcinfbckdiaoaaGreatDoorQHa
set_option linter.unusedVariables false
set_option linter.unusedSimpArgs false
set_option maxRecDepth 100000
set_option maxHeartbeats 4000000
namespace Go.Proofs.YtmcinfbckdiaoaaGreatDoor.Lv
open Go Go.RowKit
attribute [go_sem] cl_tx flat_tx
def pairsB (l : List (Txt × Txt)) (m : Nat) : Bool := decide (l.length ≤ m) && l.all fun p => decide (p.1.length ≤ 30) && decide (p.2.length ≤ 30)
theorem book_Pairs (l : List (Txt × Txt)) {m : Nat} (hm : m < 1000) : C E 19 [txD l, .int .i64 m] (.bool (pairsB l m)) := by
  refine CG_intro Tryz.func19 rfl (by kernel_rfl) rfl (by kernel_rfl) (by kernel_rfl) rfl ?_
  by_cases hlen : l.length ≤ m
  · have e : pairsB l m = l.all fun p => decide (p.1.length ≤ 30) && decide (p.2.length ≤ 30) := by unfold pairsB; rw [decide_eq_true hlen]; rfl
    rw [e]
    simp (maxSteps := 3000000) (disch := first | exact trivial | assumption | omega | exact rOk | exact rCl | exact rNo) only [go_sem, seval, txD]
    refine AL.of (fun i : Nat => i ≤ l.length ∧ ∀ j, j < i → (l.getD j ([], [])).1.length ≤ 30 ∧ (l.getD j ([], [])).2.length ≤ 30) (fun i => l.length - i) (fun i => [(0, txD l), (5, .int .i64 i)]) (fun _ => []) 0 ⟨Nat.zero_le _, fun j hj => by omega⟩ ?_ ?_ ?_ ?_
    · simp (maxSteps := 3000000) (disch := first | exact trivial | assumption | omega | exact rOk | exact rCl | exact rNo) only [go_sem, seval, txD]
      try exact LeV.refl _
    · simp (maxSteps := 3000000) (disch := first | exact trivial | assumption | omega | exact rOk | exact rCl | exact rNo) only [go_sem, seval]
    · intro x _; simp (maxSteps := 3000000) (disch := first | exact trivial | assumption | omega | exact rOk | exact rCl | exact rNo) only [go_sem, seval]
    rintro i ⟨hi, hall⟩
    by_cases hil : i = l.length
    · subst hil
      have ha : (l.all fun p => decide (p.1.length ≤ 30) && decide (p.2.length ≤ 30)) = true := List.all_eq_true.2 fun p hp => by
        obtain ⟨j, hj, rfl⟩ := List.getElem_of_mem hp
        have := hall j hj
        rw [List.getD_eq_getElem?_getD, List.getElem?_eq_getElem hj] at this
        obtain ⟨h1, h2⟩ := this
        simp only [Option.getD_some] at h1 h2
        rw [decide_eq_true h1, decide_eq_true h2]; rfl
      rw [ha]
      simp (maxSteps := 3000000) (disch := first | exact trivial | assumption | omega | exact rOk | exact rCl | exact rNo) only [go_sem, seval, txD]
    · have hil' : i < l.length := by omega
      have hmem : l.getD i ([], []) ∈ l := by
        rw [List.getD_eq_getElem?_getD, List.getElem?_eq_getElem hil']; exact List.getElem_mem hil'
      have hp : txR l i = .agg [.str (l.getD i ([], [])).1, .str (l.getD i ([], [])).2] := rfl
      generalize hpp : l.getD i ([], []) = p at *
      by_cases h1 : p.1.length ≤ 30
      · by_cases h2 : p.2.length ≤ 30
        · simp (maxSteps := 3000000) (disch := first | exact trivial | assumption | omega | exact rOk | exact rCl | exact rNo) only [go_sem, seval, txD, hp]
          refine ⟨i + 1, ⟨hil', fun j hj => ?_⟩, by show l.length - (i + 1) < l.length - i; omega, ?_, ?_⟩
          · by_cases hji : j = i
            · subst hji; rw [hpp]; exact ⟨h1, h2⟩
            · exact hall j (by omega)
          · simp (maxSteps := 3000000) (disch := first | exact trivial | assumption | omega | exact rOk | exact rCl | exact rNo) only [go_sem, seval, txD]
            exact LeV_int (by omega)
          · simp (maxSteps := 3000000) (disch := first | exact trivial | assumption | omega | exact rOk | exact rCl | exact rNo) only [go_sem, seval]
        · have ha : (l.all fun p => decide (p.1.length ≤ 30) && decide (p.2.length ≤ 30)) = false := by
            rw [Bool.eq_false_iff]
            intro h
            have := List.all_eq_true.1 h p hmem
            rw [decide_eq_false h2] at this
            simp at this
          rw [ha]
          simp (maxSteps := 3000000) (disch := first | exact trivial | assumption | omega | exact rOk | exact rCl | exact rNo) only [go_sem, seval, txD, hp]
      · have ha : (l.all fun p => decide (p.1.length ≤ 30) && decide (p.2.length ≤ 30)) = false := by
          rw [Bool.eq_false_iff]
          intro h
          have := List.all_eq_true.1 h p hmem
          rw [decide_eq_false h1] at this
          simp at this
        rw [ha]
        simp (maxSteps := 3000000) (disch := first | exact trivial | assumption | omega | exact rOk | exact rCl | exact rNo) only [go_sem, seval, txD, hp]
  · have e : pairsB l m = false := by unfold pairsB; rw [decide_eq_false hlen]; rfl
    rw [e]
    simp (maxSteps := 3000000) (disch := first | exact trivial | assumption | omega | exact rOk | exact rCl | exact rNo) only [go_sem, seval, txD]
/-- A number brought into what is let. -/
def wiK (n : Int) (m : Nat) : Int := if n.tmod ((m : Int) + 1) < 0 then n.tmod ((m : Int) + 1) + ((m : Int) + 1) else n.tmod ((m : Int) + 1)
theorem wiK_in (n : Int) (m : Nat) : 0 ≤ wiK n m ∧ wiK n m ≤ m := by
  have h1 := Int.tmod_lt_of_pos n (show (0 : Int) < (m : Int) + 1 by omega)
  have h2 := Int.lt_tmod_of_pos n (show (0 : Int) < (m : Int) + 1 by omega)
  unfold wiK
  split <;> omega
theorem book_Within (n : Int) {m : Nat} (hm : m < 1073741824) : C E 27 [.int .i64 n, .int .i64 0, .int .i64 m] (.int .i64 (wiK n m)) := by
  refine CG_intro Tryz.func27 rfl (by kernel_rfl) rfl (by kernel_rfl) (by kernel_rfl) rfl ?_
  have h1 := Int.tmod_lt_of_pos n (show (0 : Int) < (m : Int) + 1 by omega)
  have h2 := Int.lt_tmod_of_pos n (show (0 : Int) < (m : Int) + 1 by omega)
  have e0 : (m : Int) - 0 = m := Int.sub_zero _
  have ne : ((m : Int) + 1 = 0) = False := eq_false (by omega)
  unfold wiK
  by_cases h : n.tmod ((m : Int) + 1) < 0
  · rw [if_pos h]
    generalize ht : n.tmod ((m : Int) + 1) = t at *
    simp (maxSteps := 3000000) (disch := first | exact trivial | assumption | omega | exact rOk | exact rCl | exact rNo) only [go_sem, seval, e0, ne, ht]
    try exact LeV_int (by omega)
  · rw [if_neg h]
    generalize ht : n.tmod ((m : Int) + 1) = t at *
    simp (maxSteps := 3000000) (disch := first | exact trivial | assumption | omega | exact rOk | exact rCl | exact rNo) only [go_sem, seval, e0, ne, ht]
    try exact LeV_int (by omega)
def okBx (l : List (Txt × Txt)) : Prop := pairsB l 4 = true ∧ (boxR l).2 = 0
theorem pairsB_len {l : List (Txt × Txt)} {m : Nat} (h : pairsB l m = true) : l.length ≤ m ∧ ∀ p ∈ l, p.1.length ≤ 30 ∧ p.2.length ≤ 30 := by
  unfold pairsB at h
  rw [Bool.and_eq_true] at h
  refine ⟨of_decide_eq_true h.1, fun p hp => ?_⟩
  have := List.all_eq_true.1 h.2 p hp
  rw [Bool.and_eq_true] at this
  exact ⟨of_decide_eq_true this.1, of_decide_eq_true this.2⟩
theorem law6_Of_yes {l : List (Txt × Txt)} (h : okBx l) : C E 12 [txD l] (.tup [bxD (boxR l).1, rbD (boxR l).1, .bool true]) := by
  refine CG_intro Tryz.func12 rfl (by kernel_rfl) rfl (by kernel_rfl) (by kernel_rfl) rfl ?_
  obtain ⟨hp, hb⟩ := h
  obtain ⟨hl, hs⟩ := pairsB_len hp
  have hP := book_Pairs l (m := 4) (by omega)
  rw [hp] at hP
  have hs' : ∀ p ∈ l, p.1.length < 9223372036854775808 ∧ p.2.length < 9223372036854775808 := fun p h => by have := hs p h; omega
  have h1 := ref_BoxParse (l := l) (by omega) hs'
  have h2 := box_Parse (l := l) (by omega) hs'
  generalize boxR l = r at *
  obtain ⟨b, e⟩ := r
  simp only at hb
  subst hb
  have e1 : rboxD (b, 0) = .tup [rbD b, .int .i64 0] := rfl
  have e2 : boxD (b, 0) = .tup [bxD b, .int .i64 0] := rfl
  rw [e1] at h1
  rw [e2] at h2
  simp (maxSteps := 3000000) (disch := first | exact trivial | assumption | omega | exact rOk | exact rCl | exact rNo) only [go_sem, seval]
  refine callC hP ?_ rfl ?_
  · simp (maxSteps := 3000000) (disch := first | exact trivial | assumption | omega | exact rOk | exact rCl | exact rNo) only [go_sem, seval]
    try exact LesV.refl _
  simp (maxSteps := 3000000) (disch := first | exact trivial | assumption | omega | exact rOk | exact rCl | exact rNo) only [go_sem, seval]
  refine callC h1 ?_ rfl ?_
  · simp (maxSteps := 3000000) (disch := first | exact trivial | assumption | omega | exact rOk | exact rCl | exact rNo) only [go_sem, seval]
    try exact LesV.refl _
  simp (maxSteps := 3000000) (disch := first | exact trivial | assumption | omega | exact rOk | exact rCl | exact rNo) only [go_sem, seval]
  refine callC h2 ?_ rfl ?_
  · simp (maxSteps := 3000000) (disch := first | exact trivial | assumption | omega | exact rOk | exact rCl | exact rNo) only [go_sem, seval]
    try exact LesV.refl _
  simp (maxSteps := 3000000) (disch := first | exact trivial | assumption | omega | exact rOk | exact rCl | exact rNo) only [go_sem, seval, bxD, rbD]
  try exact LeV.refl _
theorem law6_Of_no {l : List (Txt × Txt)} (h : ¬ okBx l) : C E 12 [txD l] (.tup [.nils, .nils, .bool false]) := by
  refine CG_intro Tryz.func12 rfl (by kernel_rfl) rfl (by kernel_rfl) (by kernel_rfl) rfl ?_
  have hP := book_Pairs l (m := 4) (by omega)
  simp (maxSteps := 3000000) (disch := first | exact trivial | assumption | omega | exact rOk | exact rCl | exact rNo) only [go_sem, seval]
  refine callC hP ?_ rfl ?_
  · simp (maxSteps := 3000000) (disch := first | exact trivial | assumption | omega | exact rOk | exact rCl | exact rNo) only [go_sem, seval]
    try exact LesV.refl _
  by_cases hp : pairsB l 4 = true
  · obtain ⟨hl, hs⟩ := pairsB_len hp
    have hs' : ∀ p ∈ l, p.1.length < 9223372036854775808 ∧ p.2.length < 9223372036854775808 := fun p h => by have := hs p h; omega
    have h1 := ref_BoxParse (l := l) (by omega) hs'
    have hne : (boxR l).2 ≠ 0 := fun e => h ⟨hp, e⟩
    rw [hp]
    generalize boxR l = r at *
    obtain ⟨b, e⟩ := r
    simp only at hne
    have e1 : rboxD (b, e) = .tup [.nils, .int .i64 e] := by unfold rboxD; rw [if_neg hne]
    rw [e1] at h1
    have hne1 : (e == 0) = false := beq_eq_false_iff_ne.2 hne
    have hne2 : (e != 0) = true := by rw [bne, hne1]; rfl
    simp (maxSteps := 3000000) (disch := first | exact trivial | assumption | omega | exact rOk | exact rCl | exact rNo) only [go_sem, seval]
    refine callC h1 ?_ rfl ?_
    · simp (maxSteps := 3000000) (disch := first | exact trivial | assumption | omega | exact rOk | exact rCl | exact rNo) only [go_sem, seval]
      try exact LesV.refl _
    simp (maxSteps := 3000000) (disch := first | exact trivial | assumption | omega | exact rOk | exact rCl | exact rNo) only [go_sem, seval, hne1, hne2]
    try exact LeV.refl _
  · have hp' : pairsB l 4 = false := by simpa using hp
    rw [hp']
    simp (maxSteps := 3000000) (disch := first | exact trivial | assumption | omega | exact rOk | exact rCl | exact rNo) only [go_sem, seval]
    try exact LeV.refl _
end Go.Proofs.YtmcinfbckdiaoaaGreatDoor.Lv

set_option linter.unusedVariables false
set_option linter.unusedSimpArgs false
set_option maxRecDepth 100000
set_option maxHeartbeats 4000000
namespace Go.Proofs.YtmcinfbckdiaoaaGreatDoor.Lv
open Go Go.RowKit
theorem qb_mid {k : Nat} {p : Rat × Rat} (h1 : qb k p.1) (h2 : qb k p.2) : qb (2 * k + 2) (midQ p) := by
  have ht : qb 1 ((2 : Int) : Rat)⁻¹ := by
    refine qb_inv ?_ (by decide)
    have a1 : nb 2 ≤ 1 := nb_lt.2 (by omega)
    have a2 : nb 1 ≤ 1 := nb_lt.2 (by omega)
    exact ⟨by show nb 2 ≤ _; omega, by show nb 1 ≤ _; omega⟩
  have := qb_mul (qb_add h1 h2) ht
  unfold midQ
  rw [Rat.div_def]
  exact this.mono (by omega)
theorem mid_lt {a b : Rat} (h : a < b) : a < midQ (a, b) ∧ midQ (a, b) < b := by
  unfold midQ
  have e : ((2 : Int) : Rat) = 2 := rfl
  rw [e]
  grind
theorem rightB_iff {l : List (Rat × Rat)} : rightB l = true ↔ (∀ p ∈ l, p.1 < p.2) ∧ 1 ≤ l.length ∧ l.length ≤ 3 := by
  unfold rightB
  rw [Bool.and_eq_true, Bool.and_eq_true, List.all_eq_true, decide_eq_true_iff, decide_eq_true_iff]
  constructor
  · rintro ⟨⟨h1, h2⟩, h3⟩
    exact ⟨fun p hp => of_decide_eq_true (h1 p hp), h2, h3⟩
  · rintro ⟨h1, h2, h3⟩
    exact ⟨⟨fun p hp => decide_eq_true (h1 p hp), h2⟩, h3⟩
/-- A place's bounds: k bits' worth. -/
def BxB (k n : Nat) (l : List (Rat × Rat)) : Prop := rightB l = true ∧ l.length = n ∧ ∀ p ∈ l, qb k p.1 ∧ qb k p.2
theorem BxB.split {k n i : Nat} {l : List (Rat × Rat)} (h : BxB k n l) (hi : i < n) : BxB (2 * k + 2) n (splitL l i) ∧ BxB (2 * k + 2) n (splitH l i) := by
  obtain ⟨h1, h2, h3⟩ := h
  rw [rightB_iff] at h1
  obtain ⟨h1, h4, h5⟩ := h1
  have hmem : l.getD i (0, 0) ∈ l := by
    rw [List.getD_eq_getElem?_getD, List.getElem?_eq_getElem (by omega)]; exact List.getElem_mem _
  unfold splitL splitH
  generalize l.getD i (0, 0) = p at *
  obtain ⟨m1, m2⟩ := mid_lt (h1 p hmem)
  obtain ⟨b1, b2⟩ := h3 p hmem
  have b3 := qb_mid b1 b2
  have hs : ∀ (q : Rat × Rat), q.1 < q.2 → qb (2 * k + 2) q.1 → qb (2 * k + 2) q.2 → BxB (2 * k + 2) n (l.set i q) := fun q q1 q2 q3 => by
    refine ⟨rightB_iff.2 ⟨fun r hr => ?_, by rw [List.length_set]; exact h4, by rw [List.length_set]; exact h5⟩, by rw [List.length_set]; exact h2, fun r hr => ?_⟩
    · rcases List.mem_or_eq_of_mem_set hr with h | h
      · exact h1 r h
      · rw [h]; exact q1
    · rcases List.mem_or_eq_of_mem_set hr with h | h
      · exact ⟨(h3 r h).1.mono (by omega), (h3 r h).2.mono (by omega)⟩
      · rw [h]; exact ⟨q2, q3⟩
  exact ⟨hs _ m1 (b1.mono (by omega)) b3, hs _ m2 b3 (b2.mono (by omega))⟩
/-- As large as a place so deep may be. -/
def bK : Nat → Nat
  | 0 => 4001
  | d + 1 => 2 * bK d + 2
theorem bK_mono {d e : Nat} (h : d ≤ e) : bK d ≤ bK e := by
  induction h with
  | refl => exact Nat.le_refl _
  | step _ ih => exact Nat.le_trans ih (by show bK _ ≤ 2 * bK _ + 2; omega)
theorem bK_small {d : Nat} (h : d ≤ 13) : bK d < 40000000 := Nat.lt_of_le_of_lt (bK_mono h) (by decide)
theorem boxR_ok {l : List (Txt × Txt)} (h : (boxR l).2 = 0) : BxB 4001 (boxR l).1.length (boxR l).1 ∧ 1 ≤ (boxR l).1.length ∧ (boxR l).1.length ≤ 3 := by
  have hs : ∀ p : Txt × Txt, (sideR p.1 p.2).2 = 0 → (sideR p.1 p.2).1.1 < (sideR p.1 p.2).1.2 ∧ qb 4001 (sideR p.1 p.2).1.1 ∧ qb 4001 (sideR p.1 p.2).1.2 := fun p => by
    obtain ⟨q1, q2, _⟩ := spR_qb p.1 p.2
    unfold sideR
    generalize spR p.1 p.2 = s at *
    split
    · rename_i h; intro h2; exact absurd h2 h
    · split
      · intro h2; exact absurd h2 (by decide)
      · rename_i h
        split
        · intro _; exact ⟨by grind, q1, q2⟩
        · intro h2; exact absurd h2 (by decide)
  unfold boxR at h ⊢
  split at h
  · exact absurd h (by decide)
  · rename_i hlen
    rw [if_neg hlen]
    unfold sidesR at h ⊢
    split at h
    · rename_i p hp
      have := List.find?_some hp
      exact absurd h (of_decide_eq_true this)
    · rename_i hf
      have hz : ∀ p ∈ l, (sideR p.1 p.2).2 = 0 := fun p hp => by
        have := List.find?_eq_none.1 hf p hp
        simpa using this
      have hm : ∀ q ∈ l.map (fun p => (sideR p.1 p.2).1), q.1 < q.2 ∧ qb 4001 q.1 ∧ qb 4001 q.2 := fun q hq => by
        obtain ⟨p, hp, rfl⟩ := List.mem_map.1 hq
        exact hs p (hz p hp)
      refine ⟨⟨rightB_iff.2 ⟨fun q hq => (hm q hq).1, ?_, ?_⟩, rfl, fun q hq => (hm q hq).2⟩, ?_, ?_⟩
      all_goals
        simp only [List.length_map]
        omega
/-- A row of whole numbers. -/
def iR (l : List Int) : Nat → D := fun i => .int .i64 (l.getD i 0)
def I64 (n : Int) : Prop := -9223372036854775808 ≤ n ∧ n ≤ 9223372036854775807
end Go.Proofs.YtmcinfbckdiaoaaGreatDoor.Lv

set_option linter.unusedVariables false
set_option linter.unusedSimpArgs false
set_option maxRecDepth 100000
set_option maxHeartbeats 4000000
namespace Go.Proofs.YtmcinfbckdiaoaaGreatDoor.Lv
open Go Go.RowKit
theorem whole_Neg {z : Int} (hz : zb z < 1000000000) : C E 134 [zD z] (zD (-z)) := by
  refine CG_intro Tryz.func134 rfl (by kernel_rfl) rfl (by kernel_rfl) (by kernel_rfl) rfl ?_
  have e : mkZ (!decide (z < 0)) z.natAbs = -z := by
    unfold mkZ
    by_cases h : z < 0
    · rw [decide_eq_true h, if_neg (by decide)]; omega
    · rw [decide_eq_false h, if_pos (by decide)]; omega
  have hz' : nb z.natAbs < 1000000000 := hz
  have hF := whole_From (!decide (z < 0)) (n := z.natAbs) (by omega)
  rw [e] at hF
  simp (maxSteps := 3000000) (disch := first | exact trivial | assumption | omega | exact rOk | exact rCl | exact rNo) only [go_sem, seval]
  refine callC hF ?_ rfl ?_
  · simp (maxSteps := 3000000) (disch := first | exact trivial | assumption | omega | exact rOk | exact rCl | exact rNo) only [go_sem, seval, natD_u32s]
    try exact LesV.refl _
  simp (maxSteps := 3000000) (disch := first | exact trivial | assumption | omega | exact rOk | exact rCl | exact rNo) only [go_sem, seval]
  try exact LeV.refl _
theorem rneg_den (q : Rat) : (-q).den = q.den := rfl
theorem rneg_num (q : Rat) : (-q).num = -q.num := rfl
theorem qden_neg (q : Rat) : qden (-q) = qden q := by
  unfold qden; rw [rneg_den]
theorem rat_Neg {q : Rat} (hq : qs q) : C E 89 [qD q] (qD (-q)) := by
  refine CG_intro Tryz.func89 rfl (by kernel_rfl) rfl (by kernel_rfl) (by kernel_rfl) rfl ?_
  have hq1 := hq.1
  have hN := whole_Neg (z := q.num) (by omega)
  have e : qD (-q) = .agg [u32s (limbs (-q.num).natAbs), .bool (decide (-q.num < 0)), u32s (limbs (qden q))] := by
    rw [qD, qden_neg, rneg_num]
  rw [e]
  simp (maxSteps := 3000000) (disch := first | exact trivial | assumption | omega | exact rOk | exact rCl | exact rNo) only [go_sem, seval]
  refine callCl hN ?_ rfl ?_
  · simp (maxSteps := 3000000) (disch := first | exact trivial | assumption | omega | exact rOk | exact rCl | exact rNo) only [go_sem, seval]
    try exact LesV.refl _
  simp (maxSteps := 3000000) (disch := first | exact trivial | assumption | omega | exact rOk | exact rCl | exact rNo) only [go_sem, seval]
  try exact LeV.refl _
theorem qb_neg {k : Nat} {q : Rat} (h : qb k q) : qb k (-q) := by
  obtain ⟨h1, h2⟩ := h
  unfold zb at h1
  refine ⟨?_, by rw [rneg_den]; exact h2⟩
  unfold zb
  rw [rneg_num, Int.natAbs_neg]; exact h1
theorem rat_Sub {a b : Rat} (ha : qb 40000000 a) (hb : qb 40000000 b) : C E 56 [qD a, qD b] (qD (a - b)) := by
  refine CG_intro Tryz.func56 rfl (by kernel_rfl) rfl (by kernel_rfl) (by kernel_rfl) rfl ?_
  have hA := rat_Add (ha.qs (by omega)) ((qb_neg hb).qs (by omega))
  rw [← Rat.sub_eq_add_neg] at hA
  simp (maxSteps := 3000000) (disch := first | exact trivial | assumption | omega | exact rOk | exact rCl | exact rNo) only [go_sem, seval]
  refine callCl (rat_Neg (hb.qs (by omega))) ?_ rfl ?_
  · simp (maxSteps := 3000000) (disch := first | exact trivial | assumption | omega | exact rOk | exact rCl | exact rNo) only [go_sem, seval]
    try exact LesV.refl _
  simp (maxSteps := 3000000) (disch := first | exact trivial | assumption | omega | exact rOk | exact rCl | exact rNo) only [go_sem, seval]
  refine callCl hA ?_ rfl ?_
  · simp (maxSteps := 3000000) (disch := first | exact trivial | assumption | omega | exact rOk | exact rCl | exact rNo) only [go_sem, seval]
    try exact LesV.refl _
  simp (maxSteps := 3000000) (disch := first | exact trivial | assumption | omega | exact rOk | exact rCl | exact rNo) only [go_sem, seval]
  try exact LeV.refl _
def wd (p : Rat × Rat) : Rat := p.2 - p.1
theorem wd_qb {k : Nat} {p : Rat × Rat} (h1 : qb k p.1) (h2 : qb k p.2) : qb (2 * k + 1) (wd p) := by
  unfold wd
  rw [Rat.sub_eq_add_neg]
  exact (qb_add h2 (qb_neg h1)).mono (by omega)
theorem span_Width {p : Rat × Rat} (h1 : qb 40000000 p.1) (h2 : qb 40000000 p.2) : C E 17 [sD p] (qD (wd p)) := by
  refine CG_intro Tryz.func17 rfl (by kernel_rfl) rfl (by kernel_rfl) (by kernel_rfl) rfl ?_
  have hS := rat_Sub h2 h1
  simp (maxSteps := 3000000) (disch := first | exact trivial | assumption | omega | exact rOk | exact rCl | exact rNo) only [go_sem, seval]
  refine callC hS ?_ rfl ?_
  · simp (maxSteps := 3000000) (disch := first | exact trivial | assumption | omega | exact rOk | exact rCl | exact rNo) only [go_sem, seval]
    try exact LesV.refl _
  simp (maxSteps := 3000000) (disch := first | exact trivial | assumption | omega | exact rOk | exact rCl | exact rNo) only [go_sem, seval]
  try exact LeV.refl _
/-- The widest of the first sides. -/
def widF (l : List (Rat × Rat)) : Nat → Nat
  | 0 => 0
  | i + 1 => if wd (l.getD (widF l i) (0, 0)) < wd (l.getD i (0, 0)) then i else widF l i
theorem widF_lt (l : List (Rat × Rat)) : ∀ i, widF l (i + 1) ≤ i
  | 0 => by rw [widF]; split <;> exact Nat.le_refl _
  | i + 1 => by
    have ih := widF_lt l i
    rw [widF]; split <;> omega
theorem widF_le (l : List (Rat × Rat)) (i : Nat) : widF l i ≤ i := by
  cases i with
  | zero => exact Nat.le_refl _
  | succ i => have := widF_lt l i; omega
theorem widF_max (l : List (Rat × Rat)) : ∀ i j, j < i → wd (l.getD j (0, 0)) ≤ wd (l.getD (widF l i) (0, 0)) ∧ (j < widF l i → wd (l.getD j (0, 0)) < wd (l.getD (widF l i) (0, 0)))
  | 0, j, h => by omega
  | i + 1, j, h => by
    have ih := widF_max l i
    have hle := widF_le l i
    rw [widF]
    split
    · rename_i hw
      by_cases hj : j < i
      · obtain ⟨h1, h2⟩ := ih j hj
        exact ⟨by grind, fun _ => by grind⟩
      · obtain rfl : j = i := by omega
        exact ⟨by grind, fun h => by omega⟩
    · rename_i hw
      by_cases hj : j < i
      · exact ih j hj
      · obtain rfl : j = i := by omega
        exact ⟨by grind, fun h => by omega⟩
theorem box_Widest_no {l : List (Rat × Rat)} (hq : ∀ p ∈ l, qb 40000000 p.1 ∧ qb 40000000 p.2) (hl : l.length < 1073741824) (hr : rightB l = false) : C E 14 [bxD l] (.int .i64 (-1)) := by
  refine CG_intro Tryz.func14 rfl (by kernel_rfl) rfl (by kernel_rfl) (by kernel_rfl) rfl ?_
  have hR := box_Right (fun p hp => ⟨(hq p hp).1.qs (by omega), (hq p hp).2.qs (by omega)⟩) hl
  rw [hr] at hR
  simp (maxSteps := 3000000) (disch := first | exact trivial | assumption | omega | exact rOk | exact rCl | exact rNo) only [go_sem, seval]
  refine callC hR ?_ rfl ?_
  · simp (maxSteps := 3000000) (disch := first | exact trivial | assumption | omega | exact rOk | exact rCl | exact rNo) only [go_sem, seval]
  simp (maxSteps := 3000000) (disch := first | exact trivial | assumption | omega | exact rOk | exact rCl | exact rNo) only [go_sem, seval]
theorem box_Widest {l : List (Rat × Rat)} (hq : ∀ p ∈ l, qb 40000000 p.1 ∧ qb 40000000 p.2) (hl : l.length < 1073741824) (hr : rightB l = true) : C E 14 [bxD l] (.int .i64 (widF l l.length)) := by
  refine CG_intro Tryz.func14 rfl (by kernel_rfl) rfl (by kernel_rfl) (by kernel_rfl) rfl ?_
  have hR := box_Right (fun p hp => ⟨(hq p hp).1.qs (by omega), (hq p hp).2.qs (by omega)⟩) hl
  rw [hr] at hR
  have h1 := (rightB_iff.1 hr).2.1
  simp (maxSteps := 3000000) (disch := first | exact trivial | assumption | omega | exact rOk | exact rCl | exact rNo) only [go_sem, seval]
  refine callC hR ?_ rfl ?_
  · simp (maxSteps := 3000000) (disch := first | exact trivial | assumption | omega | exact rOk | exact rCl | exact rNo) only [go_sem, seval]
  simp (maxSteps := 3000000) (disch := first | exact trivial | assumption | omega | exact rOk | exact rCl | exact rNo) only [go_sem, seval, bxD]
  refine AL.of (fun i : Nat => i ≤ l.length) (fun i => l.length - i) (fun i => [(0, bxD l), (3, .int .i64 (widF l i)), (9, bxD l), (10, .int .i64 l.length), (11, .int .i64 i)]) (fun _ => []) 0 (Nat.zero_le _) ?_ ?_ ?_ ?_
  · simp (maxSteps := 3000000) (disch := first | exact trivial | assumption | omega | exact rOk | exact rCl | exact rNo) only [go_sem, seval, bxD]
    try exact LeV.refl _
  · simp (maxSteps := 3000000) (disch := first | exact trivial | assumption | omega | exact rOk | exact rCl | exact rNo) only [go_sem, seval]
  · intro x _; simp (maxSteps := 3000000) (disch := first | exact trivial | assumption | omega | exact rOk | exact rCl | exact rNo) only [go_sem, seval]
  intro i hi
  by_cases hil : i = l.length
  · subst hil
    simp (maxSteps := 3000000) (disch := first | exact trivial | assumption | omega | exact rOk | exact rCl | exact rNo) only [go_sem, seval, bxD]
  · have hil' : i < l.length := by omega
    have hm : ∀ j, j < l.length → l.getD j (0, 0) ∈ l := fun j hj => by
      rw [List.getD_eq_getElem?_getD, List.getElem?_eq_getElem hj]; exact List.getElem_mem hj
    have hwl : widF l i < l.length := by have := widF_le l i; omega
    have hp : pR l i = sD (l.getD i (0, 0)) := rfl
    have hpw : pR l (widF l i) = sD (l.getD (widF l i) (0, 0)) := rfl
    have ew : ((widF l i : Nat) : Int).toNat = widF l i := by omega
    have hnx : widF l (i + 1) = if wd (l.getD (widF l i) (0, 0)) < wd (l.getD i (0, 0)) then i else widF l i := rfl
    obtain ⟨s1, s2⟩ := hq _ (hm i hil')
    obtain ⟨s3, s4⟩ := hq _ (hm _ hwl)
    have hg := sgQ_gt (wd (l.getD i (0, 0))) (wd (l.getD (widF l i) (0, 0)))
    generalize l.getD i (0, 0) = p at *
    generalize l.getD (widF l i) (0, 0) = q at *
    have w1 := wd_qb s1 s2
    have w2 := wd_qb s3 s4
    have hc := rat_Cmp (w1.qs (by omega)) (w2.qs (by omega))
    have u1 := span_Width s1 s2
    have u2 := span_Width s3 s4
    simp (maxSteps := 3000000) (disch := first | exact trivial | assumption | omega | exact rOk | exact rCl | exact rNo) only [go_sem, seval, bxD, hp, hpw, ew]
    refine callCl u1 ?_ rfl ?_
    · simp (maxSteps := 3000000) (disch := first | exact trivial | assumption | omega | exact rOk | exact rCl | exact rNo) only [go_sem, seval]
      try exact LesV.refl _
    simp (maxSteps := 3000000) (disch := first | exact trivial | assumption | omega | exact rOk | exact rCl | exact rNo) only [go_sem, seval, bxD, hp, hpw, ew]
    refine callCl u2 ?_ rfl ?_
    · simp (maxSteps := 3000000) (disch := first | exact trivial | assumption | omega | exact rOk | exact rCl | exact rNo) only [go_sem, seval]
      try exact LesV.refl _
    simp (maxSteps := 3000000) (disch := first | exact trivial | assumption | omega | exact rOk | exact rCl | exact rNo) only [go_sem, seval, bxD, hp, hpw, ew]
    refine callCl hc ?_ rfl ?_
    · simp (maxSteps := 3000000) (disch := first | exact trivial | assumption | omega | exact rOk | exact rCl | exact rNo) only [go_sem, seval]
      try exact LesV.refl _
    by_cases h : wd q < wd p
    · rw [decide_eq_true h] at hg
      rw [if_pos h] at hnx
      simp (maxSteps := 3000000) (disch := first | exact trivial | assumption | omega | exact rOk | exact rCl | exact rNo) only [go_sem, seval, bxD, hg]
      refine ⟨i + 1, hil', by show l.length - (i + 1) < l.length - i; omega, ?_, ?_⟩
      · simp (maxSteps := 3000000) (disch := first | exact trivial | assumption | omega | exact rOk | exact rCl | exact rNo) only [go_sem, seval, bxD, hnx]
        try exact LeV_int (by omega)
      · simp (maxSteps := 3000000) (disch := first | exact trivial | assumption | omega | exact rOk | exact rCl | exact rNo) only [go_sem, seval]
    · rw [decide_eq_false h] at hg
      rw [if_neg h] at hnx
      simp (maxSteps := 3000000) (disch := first | exact trivial | assumption | omega | exact rOk | exact rCl | exact rNo) only [go_sem, seval, bxD, hg]
      refine ⟨i + 1, hil', by show l.length - (i + 1) < l.length - i; omega, ?_, ?_⟩
      · simp (maxSteps := 3000000) (disch := first | exact trivial | assumption | omega | exact rOk | exact rCl | exact rNo) only [go_sem, seval, bxD, hnx]
        try exact LeV_int (by omega)
      · simp (maxSteps := 3000000) (disch := first | exact trivial | assumption | omega | exact rOk | exact rCl | exact rNo) only [go_sem, seval]
end Go.Proofs.YtmcinfbckdiaoaaGreatDoor.Lv

set_option linter.unusedVariables false
set_option linter.unusedSimpArgs false
set_option maxRecDepth 100000
set_option maxHeartbeats 4000000
namespace Go.Proofs.YtmcinfbckdiaoaaGreatDoor.Lv
open Go Go.RowKit
theorem rp_two : rpO [50] = some ((2 : Int) : Rat) := by
  unfold rpO
  rw [if_neg (by decide)]
  have : zpO [50] = some 2 := by
    unfold zpO
    rw [if_neg (by decide), if_pos (by decide)]
    rfl
  rw [this]; rfl
theorem rp_mone : rpO [45, 49] = some ((-1 : Int) : Rat) := by
  unfold rpO
  rw [if_neg (by decide)]
  have : zpO [45, 49] = some (-1) := by decide
  rw [this]; rfl
theorem side_int {a b : List UInt8} {x y : Int} (ha : rpO a = some (x : Rat)) (hb : rpO b = some (y : Rat)) (h : x < y) : sideR a b = (((x : Rat), (y : Rat)), 0) := by
  have h1 : ¬ (y : Rat) < (x : Rat) := by rw [Rat.intCast_lt_intCast]; omega
  have h2 : ¬ (y : Rat) ≤ (x : Rat) := by rw [Rat.intCast_le_intCast]; omega
  have e1 : spR a b = (((x : Rat), (y : Rat)), 0) := by
    unfold spR
    rw [ha, hb]
    simp only [h1, if_false]
  unfold sideR
  rw [e1]
  simp only [ne_eq, not_true_eq_false, if_false, h2, dyq_int, and_self, if_true]
abbrev bx6 : List (Rat × Rat) := [(((0 : Int) : Rat), ((1 : Int) : Rat)), (((-1 : Int) : Rat), ((2 : Int) : Rat))]
theorem box6 : boxR [([48], [49]), ([45, 49], [50])] = (bx6, 0) := by
  have e1 := side_int rp_zero rp_one (by decide)
  have e2 := side_int rp_mone rp_two (by decide)
  have e3 : sidesR [([48], [49]), ([45, 49], [50])] = (bx6, 0) := by
    unfold sidesR
    simp [List.find?, e1, e2]
  unfold boxR
  rw [if_neg (by decide), e3]
theorem right6 : rightB bx6 = true := by decide +kernel
theorem wid6 : widF bx6 bx6.length = 1 := by decide +kernel
theorem qb_small (k : Int) (h : k.natAbs ≤ 2) : qb 40000000 (k : Rat) := by
  have h1 : nb k.natAbs ≤ 1 := nb_lt.2 (by omega)
  have h2 : nb 1 ≤ 1 := nb_lt.2 (by omega)
  exact ⟨by show nb _ ≤ _; rw [Rat.num_intCast]; omega, by rw [Rat.den_intCast]; omega⟩
theorem alive6 : C E 13 [] (.bool true) := by
  refine CG_intro Tryz.func13 rfl (by kernel_rfl) rfl (by kernel_rfl) (by kernel_rfl) rfl ?_
  have hP := box_Parse (l := [([48], [49]), ([45, 49], [50])]) (by decide) (fun p hp => by
    rw [List.mem_cons, List.mem_singleton] at hp
    rcases hp with rfl | rfl <;> exact ⟨by decide, by decide⟩)
  rw [box6] at hP
  have hbD : boxD (bx6, 0) = .tup [bxD bx6, .int .i64 0] := rfl
  rw [hbD] at hP
  have hr := right6
  have hw := wid6
  have hq : ∀ p ∈ bx6, qb 40000000 p.1 ∧ qb 40000000 p.2 := fun p hp => by
    rw [List.mem_cons, List.mem_singleton] at hp
    rcases hp with rfl | rfl
    · exact ⟨qb_small 0 (by decide), qb_small 1 (by decide)⟩
    · exact ⟨qb_small (-1) (by decide), qb_small 2 (by decide)⟩
  have hlen : bx6.length = 2 := rfl
  generalize bx6 = b at *
  have hR := box_Right (fun p hp => ⟨(hq p hp).1.qs (by omega), (hq p hp).2.qs (by omega)⟩) (by omega)
  have hW := box_Widest hq (by omega) hr
  rw [hr] at hR
  rw [hw] at hW
  simp (maxSteps := 3000000) (disch := first | exact trivial | assumption | omega | exact rOk | exact rCl | exact rNo) only [go_sem, seval]
  refine callC hP ?_ rfl ?_
  · simp (maxSteps := 3000000) (disch := first | exact trivial | assumption | omega | exact rOk | exact rCl | exact rNo) only [go_sem, seval]
    refine LesV.cons (LeV.ro rfl fun i hi => ?_) LesV.nil
    rcases (show i = 0 ∨ i = 1 by omega) with rfl | rfl
    · exact Le.refl _
    · exact Le.refl _
  simp (maxSteps := 3000000) (disch := first | exact trivial | assumption | omega | exact rOk | exact rCl | exact rNo) only [go_sem, seval, bxD, hlen]
  refine callC hR ?_ rfl ?_
  · simp (maxSteps := 3000000) (disch := first | exact trivial | assumption | omega | exact rOk | exact rCl | exact rNo) only [go_sem, seval, bxD, hlen]
    try exact LesV.refl _
  simp (maxSteps := 3000000) (disch := first | exact trivial | assumption | omega | exact rOk | exact rCl | exact rNo) only [go_sem, seval, bxD, hlen]
  refine callC hW ?_ rfl ?_
  · simp (maxSteps := 3000000) (disch := first | exact trivial | assumption | omega | exact rOk | exact rCl | exact rNo) only [go_sem, seval, bxD, hlen]
    try exact LesV.refl _
  simp (maxSteps := 3000000) (disch := first | exact trivial | assumption | omega | exact rOk | exact rCl | exact rNo) only [go_sem, seval]
theorem wd_half (p : Rat × Rat) : wd (p.1, midQ p) + wd (p.1, midQ p) = wd p := by
  unfold wd midQ
  have e : ((2 : Int) : Rat) = 2 := rfl
  rw [e]
  grind
theorem boxWidest (l : List (Txt × Txt)) : C E 3 [txD l] (.bool true) := by
  refine CG_intro Tryz.func3 rfl (by kernel_rfl) rfl (by kernel_rfl) (by kernel_rfl) rfl ?_
  by_cases hok : okBx l
  case neg =>
    simp (maxSteps := 3000000) (disch := first | exact trivial | assumption | omega | exact rOk | exact rCl | exact rNo) only [go_sem, seval]
    refine callC (law6_Of_no hok) ?_ rfl ?_
    · simp (maxSteps := 3000000) (disch := first | exact trivial | assumption | omega | exact rOk | exact rCl | exact rNo) only [go_sem, seval]
      try exact LesV.refl _
    simp (maxSteps := 3000000) (disch := first | exact trivial | assumption | omega | exact rOk | exact rCl | exact rNo) only [go_sem, seval]
    refine callC alive6 ?_ rfl ?_
    · simp (maxSteps := 3000000) (disch := first | exact trivial | assumption | omega | exact rOk | exact rCl | exact rNo) only [go_sem, seval]
    simp (maxSteps := 3000000) (disch := first | exact trivial | assumption | omega | exact rOk | exact rCl | exact rNo) only [go_sem, seval]
  case pos =>
    obtain ⟨hb, hb1, hb3⟩ := boxR_ok hok.2
    have hO := law6_Of_yes hok
    generalize (boxR l).1 = b at *
    have hr := hb.1
    have hq : ∀ p ∈ b, qb 4001 p.1 ∧ qb 4001 p.2 := fun p hp => hb.2.2 p hp
    have hq4 : ∀ p ∈ b, qb 40000000 p.1 ∧ qb 40000000 p.2 := fun p hp => ⟨(hq p hp).1.mono (by omega), (hq p hp).2.mono (by omega)⟩
    have hW := box_Widest hq4 (by omega) hr
    have hwl := widF_lt b (b.length - 1)
    have hmx := widF_max b b.length
    rw [show b.length - 1 + 1 = b.length by omega] at hwl
    generalize widF b b.length = w at *
    have hwb : w < b.length := by omega
    have hS := box_Split hq4 (by omega) hr hwb
    have ew : ((w : Nat) : Int).toNat = w := by omega
    have hm : ∀ j, j < b.length → b.getD j (0, 0) ∈ b := fun j hj => by
      rw [List.getD_eq_getElem?_getD, List.getElem?_eq_getElem hj]; exact List.getElem_mem hj
    have hpw : pR b w = sD (b.getD w (0, 0)) := rfl
    have hll : (splitL b w).length = b.length := by unfold splitL; rw [List.length_set]
    have hlw : pR (splitL b w) w = sD ((b.getD w (0, 0)).1, midQ (b.getD w (0, 0))) := by
      unfold pR splitL
      rw [List.getD_eq_getElem?_getD (l := b.set w _), List.getElem?_set_self hwb]; rfl
    obtain ⟨q1, q2⟩ := hq _ (hm w hwb)
    have q3 := qb_mid q1 q2
    have k1 := span_Width (q1.mono (k := 40000000) (by omega)) (q2.mono (k := 40000000) (by omega))
    have k2 := span_Width (p := ((b.getD w (0, 0)).1, midQ (b.getD w (0, 0)))) (q1.mono (k := 40000000) (by omega)) (q3.mono (k := 40000000) (by omega))
    have v1 := wd_qb q1 q2
    have v2 := wd_qb (p := ((b.getD w (0, 0)).1, midQ (b.getD w (0, 0)))) (q1.mono (k := 8004) (by omega)) (q3.mono (k := 8004) (by omega))
    have k3 := rat_Add (v2.qs (by omega)) (v2.qs (by omega))
    rw [wd_half] at k3
    have k4 := rat_Cmp (v1.qs (by omega)) (v1.qs (by omega))
    have hs0 : sgQ (wd (b.getD w (0, 0))) (wd (b.getD w (0, 0))) = 0 := by
      unfold sgQ; rw [if_neg (by grind), if_pos rfl]
    rw [hs0] at k4
    simp (maxSteps := 3000000) (disch := first | exact trivial | assumption | omega | exact rOk | exact rCl | exact rNo) only [go_sem, seval]
    refine callC hO ?_ rfl ?_
    · simp (maxSteps := 3000000) (disch := first | exact trivial | assumption | omega | exact rOk | exact rCl | exact rNo) only [go_sem, seval]
      try exact LesV.refl _
    simp (maxSteps := 3000000) (disch := first | exact trivial | assumption | omega | exact rOk | exact rCl | exact rNo) only [go_sem, seval]
    refine callC alive6 ?_ rfl ?_
    · simp (maxSteps := 3000000) (disch := first | exact trivial | assumption | omega | exact rOk | exact rCl | exact rNo) only [go_sem, seval]
    simp (maxSteps := 3000000) (disch := first | exact trivial | assumption | omega | exact rOk | exact rCl | exact rNo) only [go_sem, seval]
    refine callC hW ?_ rfl ?_
    · simp (maxSteps := 3000000) (disch := first | exact trivial | assumption | omega | exact rOk | exact rCl | exact rNo) only [go_sem, seval]
      try exact LesV.refl _
    simp (maxSteps := 3000000) (disch := first | exact trivial | assumption | omega | exact rOk | exact rCl | exact rNo) only [go_sem, seval, bxD]
    refine callC hS ?_ rfl ?_
    · simp (maxSteps := 3000000) (disch := first | exact trivial | assumption | omega | exact rOk | exact rCl | exact rNo) only [go_sem, seval]
      try exact LesV.refl _
    simp (maxSteps := 3000000) (disch := first | exact trivial | assumption | omega | exact rOk | exact rCl | exact rNo) only [go_sem, seval, bxD]
    refine AL.of (fun i : Nat => i ≤ b.length) (fun i => b.length - i) (fun i => [(3, bxD b), (6, .int .i64 w), (7, bxD (splitL b w)), (9, .bool true), (10, .int .i64 i)]) (fun _ => []) 0 (Nat.zero_le _) ?_ ?_ ?_ ?_
    · simp (maxSteps := 3000000) (disch := first | exact trivial | assumption | omega | exact rOk | exact rCl | exact rNo) only [go_sem, seval, bxD]
      try exact LeV.refl _
    · simp (maxSteps := 3000000) (disch := first | exact trivial | assumption | omega | exact rOk | exact rCl | exact rNo) only [go_sem, seval]
    · intro x _; simp (maxSteps := 3000000) (disch := first | exact trivial | assumption | omega | exact rOk | exact rCl | exact rNo) only [go_sem, seval]
    clear hO hW hS hok
    intro i hi
    by_cases hil : i = b.length
    · subst hil
      simp (maxSteps := 3000000) (disch := first | exact trivial | assumption | omega | exact rOk | exact rCl | exact rNo) only [go_sem, seval, bxD, hll, ew, hpw, hlw]
      refine callCl k2 ?_ rfl ?_
      · simp (maxSteps := 3000000) (disch := first | exact trivial | assumption | omega | exact rOk | exact rCl | exact rNo) only [go_sem, seval]
        try exact LesV.refl _
      simp (maxSteps := 3000000) (disch := first | exact trivial | assumption | omega | exact rOk | exact rCl | exact rNo) only [go_sem, seval, bxD, hll, ew, hpw, hlw]
      refine callCl k2 ?_ rfl ?_
      · simp (maxSteps := 3000000) (disch := first | exact trivial | assumption | omega | exact rOk | exact rCl | exact rNo) only [go_sem, seval]
        try exact LesV.refl _
      simp (maxSteps := 3000000) (disch := first | exact trivial | assumption | omega | exact rOk | exact rCl | exact rNo) only [go_sem, seval, bxD, hll, ew, hpw, hlw]
      refine callCl k3 ?_ rfl ?_
      · simp (maxSteps := 3000000) (disch := first | exact trivial | assumption | omega | exact rOk | exact rCl | exact rNo) only [go_sem, seval]
        try exact LesV.refl _
      simp (maxSteps := 3000000) (disch := first | exact trivial | assumption | omega | exact rOk | exact rCl | exact rNo) only [go_sem, seval, bxD, hll, ew, hpw, hlw]
      refine callCl k1 ?_ rfl ?_
      · simp (maxSteps := 3000000) (disch := first | exact trivial | assumption | omega | exact rOk | exact rCl | exact rNo) only [go_sem, seval]
        try exact LesV.refl _
      simp (maxSteps := 3000000) (disch := first | exact trivial | assumption | omega | exact rOk | exact rCl | exact rNo) only [go_sem, seval, bxD, hll, ew, hpw, hlw]
      refine callCl k4 ?_ rfl ?_
      · simp (maxSteps := 3000000) (disch := first | exact trivial | assumption | omega | exact rOk | exact rCl | exact rNo) only [go_sem, seval]
        try exact LesV.refl _
      simp (maxSteps := 3000000) (disch := first | exact trivial | assumption | omega | exact rOk | exact rCl | exact rNo) only [go_sem, seval, bxD, hll, ew, hpw, hlw]
    · have hil' : i < b.length := by omega
      obtain ⟨m1, m2⟩ := hmx i hil'
      obtain ⟨s1, s2⟩ := hq _ (hm i hil')
      have hp : pR b i = sD (b.getD i (0, 0)) := rfl
      have v3 := wd_qb s1 s2
      have k5 := span_Width (s1.mono (k := 40000000) (by omega)) (s2.mono (k := 40000000) (by omega))
      have k6 := rat_Cmp (v3.qs (by omega)) (v1.qs (by omega))
      have hg := sgQ_gt (wd (b.getD i (0, 0))) (wd (b.getD w (0, 0)))
      rw [decide_eq_false (show ¬ wd (b.getD w (0, 0)) < wd (b.getD i (0, 0)) by grind)] at hg
      have hz : (sgQ (wd (b.getD i (0, 0))) (wd (b.getD w (0, 0))) == 0) = false ∨ ¬ i < w := by
        by_cases h : i < w
        · left
          have := m2 h
          have e : sgQ (wd (b.getD i (0, 0))) (wd (b.getD w (0, 0))) = -1 := by unfold sgQ; rw [if_pos this]
          rw [e]; rfl
        · right; exact h
      simp (maxSteps := 3000000) (disch := first | exact trivial | assumption | omega | exact rOk | exact rCl | exact rNo) only [go_sem, seval, bxD, hp, hpw, ew]
      refine callCl k5 ?_ rfl ?_
      · simp (maxSteps := 3000000) (disch := first | exact trivial | assumption | omega | exact rOk | exact rCl | exact rNo) only [go_sem, seval]
        try exact LesV.refl _
      simp (maxSteps := 3000000) (disch := first | exact trivial | assumption | omega | exact rOk | exact rCl | exact rNo) only [go_sem, seval, bxD, hp, hpw, ew]
      refine callCl k1 ?_ rfl ?_
      · simp (maxSteps := 3000000) (disch := first | exact trivial | assumption | omega | exact rOk | exact rCl | exact rNo) only [go_sem, seval]
        try exact LesV.refl _
      simp (maxSteps := 3000000) (disch := first | exact trivial | assumption | omega | exact rOk | exact rCl | exact rNo) only [go_sem, seval, bxD, hp, hpw, ew]
      refine callCl k6 ?_ rfl ?_
      · simp (maxSteps := 3000000) (disch := first | exact trivial | assumption | omega | exact rOk | exact rCl | exact rNo) only [go_sem, seval]
        try exact LesV.refl _
      rcases hz with hz | hz
      · simp (maxSteps := 3000000) (disch := first | exact trivial | assumption | omega | exact rOk | exact rCl | exact rNo) only [go_sem, seval, bxD, hp, hpw, ew, hg, hz]
        refine ⟨i + 1, hil', by show b.length - (i + 1) < b.length - i; omega, ?_, ?_⟩
        · simp (maxSteps := 3000000) (disch := first | exact trivial | assumption | omega | exact rOk | exact rCl | exact rNo) only [go_sem, seval, bxD]
          try exact LeV_int (by omega)
        · simp (maxSteps := 3000000) (disch := first | exact trivial | assumption | omega | exact rOk | exact rCl | exact rNo) only [go_sem, seval]
      · cases hc : (sgQ (wd (b.getD i (0, 0))) (wd (b.getD w (0, 0))) == 0)
        all_goals
          simp (maxSteps := 3000000) (disch := first | exact trivial | assumption | omega | exact rOk | exact rCl | exact rNo) only [go_sem, seval, bxD, hp, hpw, ew, hg, hc]
          refine ⟨i + 1, hil', by show b.length - (i + 1) < b.length - i; omega, ?_, ?_⟩
          · simp (maxSteps := 3000000) (disch := first | exact trivial | assumption | omega | exact rOk | exact rCl | exact rNo) only [go_sem, seval, bxD]
            try exact LeV_int (by omega)
          · simp (maxSteps := 3000000) (disch := first | exact trivial | assumption | omega | exact rOk | exact rCl | exact rNo) only [go_sem, seval]
end Go.Proofs.YtmcinfbckdiaoaaGreatDoor.Lv
