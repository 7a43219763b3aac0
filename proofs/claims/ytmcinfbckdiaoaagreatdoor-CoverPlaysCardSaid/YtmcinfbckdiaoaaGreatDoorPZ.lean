/- The program's whole numbers: Parse. -/
import Derived.Test.YtmcinfbckdiaoaaGreatDoorPY
set_option linter.unusedVariables false
set_option linter.unusedSimpArgs false
set_option maxRecDepth 100000
set_option maxHeartbeats 4000000
namespace Go.Proofs.YtmcinfbckdiaoaaGreatDoor.Lv
open Go Go.RowKit
/-- A whole number's text. -/
def zpO (s : List UInt8) : Option Int := if s ≠ [] ∧ (s.getD 0 0).toNat = 45 then (if okNat (s.drop 1) = true ∧ dval (s.drop 1) ≠ 0 then some (-(dval (s.drop 1) : Int)) else none) else (if okNat s = true then some (dval s : Int) else none)
def zpD (s : List UInt8) : D := .tup [zD ((zpO s).getD 0), .int .i64 (if (zpO s).isSome = true then 0 else 2)]
theorem zpD_no {s : List UInt8} (h : zpO s = none) : zpD s = .tup [zD 0, .int .i64 2] := by rw [zpD, h]; rfl
theorem zpD_yes {s : List UInt8} {z : Int} (h : zpO s = some z) : zpD s = .tup [zD z, .int .i64 0] := by rw [zpD, h]; rfl
theorem LeV_z0 : LeV (.tup [.agg [.nils, .bool false], .int .i64 2]) (.tup [zD 0, .int .i64 2]) := by
  refine LeV.tup (LesV.cons (LeV.agg (LesV.cons ?_ (LesV.refl _))) (LesV.refl _))
  rw [Int.natAbs_zero, limbs_zero]; exact LeV.nils
theorem okNat_len {s : List UInt8} (h : okNat s = true) : s.length ≤ 4000 ∧ ∀ c ∈ s, isDig c = true := by
  simp only [okNat, Bool.and_eq_true, decide_eq_true_eq, List.all_eq_true] at h
  exact ⟨h.1.1.2, h.2⟩
theorem whole_Parse (s : List UInt8) (hs : s.length < 9223372036854775808) : C E 126 [.str s] (zpD s) := by
  refine CG_intro Tryz.func126 rfl (by kernel_rfl) rfl (by kernel_rfl) (by kernel_rfl) rfl ?_
  have hcl : ∀ t, cl (npD t) = true := fun t => rfl
  have t2 : ((s.length : Nat) : Int).toNat = s.length := by omega
  by_cases h0 : s = []
  · subst h0
    have e : (([] : List UInt8) == []) = true := rfl
    have hz : zpO [] = none := rfl
    have hn := nat_Parse []
    rw [npD_no rfl] at hn
    rw [zpD_no hz]
    simp (maxSteps := 3000000) (disch := first | exact trivial | assumption | omega | exact rOk | exact rCl | exact rNo) only [go_sem, seval, e]
    refine callC hn ?_ rfl ?_
    · simp (maxSteps := 3000000) (disch := first | exact trivial | assumption | omega | exact rOk | exact rCl | exact rNo) only [go_sem, seval]
    simp (maxSteps := 3000000) (disch := first | exact trivial | assumption | omega | exact rOk | exact rCl | exact rNo) only [go_sem, seval]
    exact LeV_z0
  have e0 : (s == []) = false := beq_eq_false_iff_ne.2 h0
  have hpos : 0 < s.length := List.length_pos_iff.2 h0
  have hc0 := (s.getD 0 0).toNat_lt
  by_cases h1 : (s.getD 0 0).toNat = 45
  · have hn := nat_Parse (s.drop 1)
    by_cases hok : okNat (s.drop 1) = true
    · obtain ⟨hl, hd⟩ := okNat_len hok
      have hnb := dval_nb _ hd
      rw [npD_yes hok] at hn
      have hf := whole_From true (n := dval (s.drop 1)) (by omega)
      by_cases hz : dval (s.drop 1) = 0
      · have ez : zpO s = none := by unfold zpO; rw [if_pos ⟨h0, h1⟩, if_neg (fun h => h.2 hz)]
        rw [zpD_no ez]
        rw [hz] at hn
        have b0 : nbit 0 = 0 := rfl
        simp (maxSteps := 3000000) (disch := first | exact trivial | assumption | omega | exact rOk | exact rCl | exact rNo) only [go_sem, seval, e0, h1, t2, List.take_length]
        refine callC hn ?_ rfl ?_
        · simp (maxSteps := 3000000) (disch := first | exact trivial | assumption | omega | exact rOk | exact rCl | exact rNo) only [go_sem, seval]
        simp (maxSteps := 3000000) (disch := first | exact trivial | assumption | omega | exact rOk | exact rCl | exact rNo) only [go_sem, seval]
        refine callC (nat_Bits (n := 0) (by unfold nb; rw [limbs_zero]; simp)) ?_ rfl ?_
        · simp (maxSteps := 3000000) (disch := first | exact trivial | assumption | omega | exact rOk | exact rCl | exact rNo) only [go_sem, seval]
        simp (maxSteps := 3000000) (disch := first | exact trivial | assumption | omega | exact rOk | exact rCl | exact rNo) only [go_sem, seval, b0]
        exact LeV_z0
      · have ez : zpO s = some (-(dval (s.drop 1) : Int)) := by unfold zpO; rw [if_pos ⟨h0, h1⟩, if_pos ⟨hok, hz⟩]
        rw [zpD_yes ez]
        rw [show mkZ true (dval (s.drop 1)) = -(dval (s.drop 1) : Int) from rfl] at hf
        have bp := nbit_pos (Nat.pos_of_ne_zero hz)
        have bl := nbit_nb (dval (s.drop 1))
        simp (maxSteps := 3000000) (disch := first | exact trivial | assumption | omega | exact rOk | exact rCl | exact rNo) only [go_sem, seval, e0, h1, t2, List.take_length]
        refine callC hn ?_ rfl ?_
        · simp (maxSteps := 3000000) (disch := first | exact trivial | assumption | omega | exact rOk | exact rCl | exact rNo) only [go_sem, seval]
        simp (maxSteps := 3000000) (disch := first | exact trivial | assumption | omega | exact rOk | exact rCl | exact rNo) only [go_sem, seval]
        refine callC (nat_Bits (n := dval (s.drop 1)) (by omega)) ?_ rfl ?_
        · simp (maxSteps := 3000000) (disch := first | exact trivial | assumption | omega | exact rOk | exact rCl | exact rNo) only [go_sem, seval]
        simp (maxSteps := 3000000) (disch := first | exact trivial | assumption | omega | exact rOk | exact rCl | exact rNo) only [go_sem, seval]
        refine callC hf ?_ rfl ?_
        · simp (maxSteps := 3000000) (disch := first | exact trivial | assumption | omega | exact rOk | exact rCl | exact rNo) only [go_sem, seval]
        simp (maxSteps := 3000000) (disch := first | exact trivial | assumption | omega | exact rOk | exact rCl | exact rNo) only [go_sem, seval]
        try exact LeV.refl _
    · have hok' : okNat (s.drop 1) = false := by simpa using hok
      have ez : zpO s = none := by unfold zpO; rw [if_pos ⟨h0, h1⟩, if_neg (fun h => hok h.1)]
      rw [zpD_no ez]
      rw [npD_no hok'] at hn
      simp (maxSteps := 3000000) (disch := first | exact trivial | assumption | omega | exact rOk | exact rCl | exact rNo) only [go_sem, seval, e0, h1, t2, List.take_length]
      refine callC hn ?_ rfl ?_
      · simp (maxSteps := 3000000) (disch := first | exact trivial | assumption | omega | exact rOk | exact rCl | exact rNo) only [go_sem, seval]
      simp (maxSteps := 3000000) (disch := first | exact trivial | assumption | omega | exact rOk | exact rCl | exact rNo) only [go_sem, seval]
      exact LeV_z0
  · have hn := nat_Parse s
    have hne : (((s.getD 0 0).toNat : Int) == 45) = false := beq_eq_false_iff_ne.2 (by omega)
    by_cases hok : okNat s = true
    · obtain ⟨hl, hd⟩ := okNat_len hok
      have hnb := dval_nb _ hd
      rw [npD_yes hok] at hn
      have hf := whole_From false (n := dval s) (by omega)
      have ez : zpO s = some (dval s : Int) := by unfold zpO; rw [if_neg (fun h => h1 h.2), if_pos hok]
      rw [zpD_yes ez]
      rw [show mkZ false (dval s) = (dval s : Int) from rfl] at hf
      simp (maxSteps := 3000000) (disch := first | exact trivial | assumption | omega | exact rOk | exact rCl | exact rNo) only [go_sem, seval, e0, hne]
      refine callC hn ?_ rfl ?_
      · simp (maxSteps := 3000000) (disch := first | exact trivial | assumption | omega | exact rOk | exact rCl | exact rNo) only [go_sem, seval]
      simp (maxSteps := 3000000) (disch := first | exact trivial | assumption | omega | exact rOk | exact rCl | exact rNo) only [go_sem, seval]
      refine callC hf ?_ rfl ?_
      · simp (maxSteps := 3000000) (disch := first | exact trivial | assumption | omega | exact rOk | exact rCl | exact rNo) only [go_sem, seval]
      simp (maxSteps := 3000000) (disch := first | exact trivial | assumption | omega | exact rOk | exact rCl | exact rNo) only [go_sem, seval]
      try exact LeV.refl _
    · have hok' : okNat s = false := by simpa using hok
      have ez : zpO s = none := by unfold zpO; rw [if_neg (fun h => h1 h.2), if_neg hok]
      rw [zpD_no ez]
      rw [npD_no hok'] at hn
      simp (maxSteps := 3000000) (disch := first | exact trivial | assumption | omega | exact rOk | exact rCl | exact rNo) only [go_sem, seval, e0, hne]
      refine callC hn ?_ rfl ?_
      · simp (maxSteps := 3000000) (disch := first | exact trivial | assumption | omega | exact rOk | exact rCl | exact rNo) only [go_sem, seval]
      simp (maxSteps := 3000000) (disch := first | exact trivial | assumption | omega | exact rOk | exact rCl | exact rNo) only [go_sem, seval]
      exact LeV_z0
end Go.Proofs.YtmcinfbckdiaoaaGreatDoor.Lv
