/- The program's quotients: Parse. -/
import Derived.Test.YtmcinfbckdiaoaaGreatDoorPZ
set_option linter.unusedVariables false
set_option linter.unusedSimpArgs false
set_option maxRecDepth 100000
set_option maxHeartbeats 4000000
namespace Go.Proofs.YtmcinfbckdiaoaaGreatDoor.Lv
open Go Go.RowKit
/-- A quotient's text. -/
def rpO (s : List UInt8) : Option Rat :=
  if 0 ≤ Lib.indexByte s 47 then
    match zpO (s.take (Lib.indexByte s 47).toNat) with
    | none => none
    | some n => if okNat (s.drop ((Lib.indexByte s 47).toNat + 1)) = true ∧ 2 ≤ dval (s.drop ((Lib.indexByte s 47).toNat + 1)) ∧ Nat.gcd (dval (s.drop ((Lib.indexByte s 47).toNat + 1))) n.natAbs = 1 then some (mkRat n (dval (s.drop ((Lib.indexByte s 47).toNat + 1)))) else none
  else (zpO s).map fun n : Int => (n : Rat)
def rpD (s : List UInt8) : D := .tup [qD ((rpO s).getD 0), .int .i64 (if (rpO s).isSome = true then 0 else 2)]
theorem rpD_no {s : List UInt8} (h : rpO s = none) : rpD s = .tup [qD 0, .int .i64 2] := by rw [rpD, h]; rfl
theorem rpD_yes {s : List UInt8} {z : Rat} (h : rpO s = some z) : rpD s = .tup [qD z, .int .i64 0] := by rw [rpD, h]; rfl
theorem LeV_q0' : LeV (.agg [.nils, .bool false, .nils]) (qD 0) := by
  have := qD_int 0
  rw [Int.natAbs_zero, limbs_zero] at this
  refine LeV.trans (LeV.agg (LesV.cons LeV.nils (LesV.refl _))) this
theorem LeV_q0 : LeV (.tup [.agg [.nils, .bool false, .nils], .int .i64 2]) (.tup [qD 0, .int .i64 2]) := LeV.tup (LesV.cons LeV_q0' (LesV.refl _))
theorem LeV_q1 : LeV (.tup [.agg [u32s (limbs 0), .bool false, .nils], .int .i64 2]) (.tup [qD 0, .int .i64 2]) := LeV.tup (LesV.cons (qD_int 0) (LesV.refl _))
theorem zpO_nb {s : List UInt8} {n : Int} (h : zpO s = some n) : zb n ≤ 4000 := by
  unfold zpO at h
  split at h
  · split at h
    · rename_i h1
      obtain ⟨hl, hd⟩ := okNat_len h1.1
      have := dval_nb _ hd
      cases h
      rw [zb_neg]
      show nb _ ≤ 4000
      rw [Int.natAbs_natCast]
      omega
    · cases h
  · split at h
    · rename_i h1
      obtain ⟨hl, hd⟩ := okNat_len h1
      have := dval_nb _ hd
      cases h
      show nb _ ≤ 4000
      rw [Int.natAbs_natCast]
      omega
    · cases h
theorem rat_Parse (s : List UInt8) (hs : s.length < 9223372036854775808) : C E 79 [.str s] (rpD s) := by
  refine CG_intro Tryz.func79 rfl (by kernel_rfl) rfl (by kernel_rfl) (by kernel_rfl) rfl ?_
  have hc := strings_Cut s 47 hs
  obtain ⟨i1, i2⟩ := ib_lt s 47
  by_cases h : 0 ≤ Lib.indexByte s 47
  · have hrp : rpO s = match zpO (s.take (Lib.indexByte s 47).toNat) with
      | none => none
      | some n => if okNat (s.drop ((Lib.indexByte s 47).toNat + 1)) = true ∧ 2 ≤ dval (s.drop ((Lib.indexByte s 47).toNat + 1)) ∧ Nat.gcd (dval (s.drop ((Lib.indexByte s 47).toNat + 1))) n.natAbs = 1 then some (mkRat n (dval (s.drop ((Lib.indexByte s 47).toNat + 1)))) else none := by
      conv => lhs; unfold rpO
      rw [if_pos h]
    rw [cutD1, if_pos h] at hc
    have l1 : (s.take (Lib.indexByte s 47).toNat).length < 9223372036854775808 := by rw [List.length_take]; omega
    generalize s.take (Lib.indexByte s 47).toNat = a at *
    generalize s.drop ((Lib.indexByte s 47).toNat + 1) = t at *
    have hw := whole_Parse a l1
    simp (maxSteps := 3000000) (disch := first | exact trivial | assumption | omega | exact rOk | exact rCl | exact rNo) only [go_sem, seval]
    refine callC hc ?_ rfl ?_
    · simp (maxSteps := 3000000) (disch := first | exact trivial | assumption | omega | exact rOk | exact rCl | exact rNo) only [go_sem, seval]
    simp (maxSteps := 3000000) (disch := first | exact trivial | assumption | omega | exact rOk | exact rCl | exact rNo) only [go_sem, seval]
    cases hz : zpO a with
    | none =>
      rw [hz] at hrp
      rw [rpD_no hrp]
      rw [zpD_no hz] at hw
      refine callC hw ?_ rfl ?_
      · simp (maxSteps := 3000000) (disch := first | exact trivial | assumption | omega | exact rOk | exact rCl | exact rNo) only [go_sem, seval]
      simp (maxSteps := 3000000) (disch := first | exact trivial | assumption | omega | exact rOk | exact rCl | exact rNo) only [go_sem, seval]
      exact LeV_q1
    | some n =>
      rw [hz] at hrp
      simp only at hrp
      have hzn := zpO_nb hz
      rw [zpD_yes hz] at hw
      refine callC hw ?_ rfl ?_
      · simp (maxSteps := 3000000) (disch := first | exact trivial | assumption | omega | exact rOk | exact rCl | exact rNo) only [go_sem, seval]
      simp (maxSteps := 3000000) (disch := first | exact trivial | assumption | omega | exact rOk | exact rCl | exact rNo) only [go_sem, seval]
      have hn := nat_Parse t
      by_cases hok : okNat t = true
      · obtain ⟨hl, hd⟩ := okNat_len hok
        have hnb := dval_nb _ hd
        rw [npD_yes hok] at hn
        generalize dval t = d at *
        have hbl := nbit_nb d
        refine callC hn ?_ rfl ?_
        · simp (maxSteps := 3000000) (disch := first | exact trivial | assumption | omega | exact rOk | exact rCl | exact rNo) only [go_sem, seval]
        by_cases hd2 : d < 2
        · rw [if_neg (fun h => by omega)] at hrp
          rw [rpD_no hrp]
          have hb := nbit_one hd2
          simp (maxSteps := 3000000) (disch := first | exact trivial | assumption | omega | exact rOk | exact rCl | exact rNo) only [go_sem, seval]
          refine callCl (nat_Bits (n := d) (by omega)) ?_ rfl ?_
          · simp (maxSteps := 3000000) (disch := first | exact trivial | assumption | omega | exact rOk | exact rCl | exact rNo) only [go_sem, seval]
          simp (maxSteps := 3000000) (disch := first | exact trivial | assumption | omega | exact rOk | exact rCl | exact rNo) only [go_sem, seval]
          exact LeV_q0
        · have hb := nbit_two (n := d) (by omega)
          have hzn' : nb n.natAbs ≤ 4000 := hzn
          have hgle : d.gcd n.natAbs ≤ d := Nat.le_of_dvd (by omega) (Nat.gcd_dvd_left _ _)
          have hgnb := nb_mono hgle
          have hgpos : 0 < d.gcd n.natAbs := Nat.gcd_pos_of_pos_left _ (by omega)
          simp (maxSteps := 3000000) (disch := first | exact trivial | assumption | omega | exact rOk | exact rCl | exact rNo) only [go_sem, seval]
          refine callCl (nat_Bits (n := d) (by omega)) ?_ rfl ?_
          · simp (maxSteps := 3000000) (disch := first | exact trivial | assumption | omega | exact rOk | exact rCl | exact rNo) only [go_sem, seval]
          simp (maxSteps := 3000000) (disch := first | exact trivial | assumption | omega | exact rOk | exact rCl | exact rNo) only [go_sem, seval]
          refine callCl (whole_Abs n) ?_ rfl ?_
          · simp (maxSteps := 3000000) (disch := first | exact trivial | assumption | omega | exact rOk | exact rCl | exact rNo) only [go_sem, seval]
          simp (maxSteps := 3000000) (disch := first | exact trivial | assumption | omega | exact rOk | exact rCl | exact rNo) only [go_sem, seval]
          refine callCl (nat_Gcd (a := d) (b := n.natAbs) (by omega) (by omega)) ?_ rfl ?_
          · simp (maxSteps := 3000000) (disch := first | exact trivial | assumption | omega | exact rOk | exact rCl | exact rNo) only [go_sem, seval]
          simp (maxSteps := 3000000) (disch := first | exact trivial | assumption | omega | exact rOk | exact rCl | exact rNo) only [go_sem, seval]
          refine callCl (nat_Bits (n := d.gcd n.natAbs) (by omega)) ?_ rfl ?_
          · simp (maxSteps := 3000000) (disch := first | exact trivial | assumption | omega | exact rOk | exact rCl | exact rNo) only [go_sem, seval]
          by_cases hg : d.gcd n.natAbs = 1
          · rw [if_pos ⟨hok, by omega, hg⟩] at hrp
            rw [rpD_yes hrp]
            have hb1 : nbit (d.gcd n.natAbs) = 1 := by rw [hg]; rfl
            obtain ⟨m0, m1, m2⟩ := mk_parts n d (by omega)
            have mk2 := mk_num (n := n) (d := d) (by omega)
            rw [hg, Nat.div_one] at mk2 m2
            rw [mkZ_self] at mk2
            simp (maxSteps := 3000000) (disch := first | exact trivial | assumption | omega | exact rOk | exact rCl | exact rNo) only [go_sem, seval, hb1]
            exact LeV.tup (LesV.cons (fin2 _ m2.symm (by rw [m2]; omega) mk2) (LesV.refl _))
          · rw [if_neg (fun h => hg h.2.2)] at hrp
            rw [rpD_no hrp]
            have hb1 := nbit_two (n := d.gcd n.natAbs) (by omega)
            simp (maxSteps := 3000000) (disch := first | exact trivial | assumption | omega | exact rOk | exact rCl | exact rNo) only [go_sem, seval]
            exact LeV_q0
      · have hok' : okNat t = false := by simpa using hok
        rw [if_neg (fun h => hok h.1)] at hrp
        rw [rpD_no hrp]
        rw [npD_no hok'] at hn
        refine callC hn ?_ rfl ?_
        · simp (maxSteps := 3000000) (disch := first | exact trivial | assumption | omega | exact rOk | exact rCl | exact rNo) only [go_sem, seval]
        simp (maxSteps := 3000000) (disch := first | exact trivial | assumption | omega | exact rOk | exact rCl | exact rNo) only [go_sem, seval]
        exact LeV_q0
  · have hrp : rpO s = (zpO s).map fun n : Int => (n : Rat) := by unfold rpO; rw [if_neg h]
    rw [cutD1, if_neg h] at hc
    have hw := whole_Parse s hs
    simp (maxSteps := 3000000) (disch := first | exact trivial | assumption | omega | exact rOk | exact rCl | exact rNo) only [go_sem, seval]
    refine callC hc ?_ rfl ?_
    · simp (maxSteps := 3000000) (disch := first | exact trivial | assumption | omega | exact rOk | exact rCl | exact rNo) only [go_sem, seval]
    simp (maxSteps := 3000000) (disch := first | exact trivial | assumption | omega | exact rOk | exact rCl | exact rNo) only [go_sem, seval]
    cases hz : zpO s with
    | none =>
      rw [hz] at hrp
      rw [rpD_no hrp]
      rw [zpD_no hz] at hw
      refine callC hw ?_ rfl ?_
      · simp (maxSteps := 3000000) (disch := first | exact trivial | assumption | omega | exact rOk | exact rCl | exact rNo) only [go_sem, seval]
      simp (maxSteps := 3000000) (disch := first | exact trivial | assumption | omega | exact rOk | exact rCl | exact rNo) only [go_sem, seval]
      exact LeV_q1
    | some n =>
      rw [hz] at hrp
      rw [rpD_yes hrp]
      rw [zpD_yes hz] at hw
      refine callC hw ?_ rfl ?_
      · simp (maxSteps := 3000000) (disch := first | exact trivial | assumption | omega | exact rOk | exact rCl | exact rNo) only [go_sem, seval]
      simp (maxSteps := 3000000) (disch := first | exact trivial | assumption | omega | exact rOk | exact rCl | exact rNo) only [go_sem, seval]
      exact LeV.tup (LesV.cons (qD_int n) (LesV.refl _))
end Go.Proofs.YtmcinfbckdiaoaaGreatDoor.Lv
