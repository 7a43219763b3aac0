/- SHA-256: bytes with the standard's end. -/
import Derived.Test.YtpobbfhdkbnpmaaDoorSC
import Derived.Test.YtpobbfhdkbnpmaaDoorBy
set_option linter.unusedVariables false
set_option linter.unusedSimpArgs false
set_option maxRecDepth 100000
set_option maxHeartbeats 4000000
namespace Go.Proofs.YtpobbfhdkbnpmaaDoor.Lv
open Go Go.RowKit

/-- The noughts of the end. -/
def zer (n : Nat) : Nat := (119 - n % 64) % 64
def be (n : Nat) (j : Nat) : List UInt8 := (List.range j).map fun i => UInt8.ofNat (n * 8 / 2 ^ (56 - 8 * i))
def pad (s : List UInt8) : List UInt8 := s ++ [128] ++ List.replicate (zer s.length) 0 ++ be s.length 8
theorem byte_be (n i : Nat) (hi : i < 8) : IntKind.u8.wrap (((n : Int) * 8).fdiv ((2 ^ (56 - 8 * (i : Int)).toNat : Nat) : Int)) = ((UInt8.ofNat (n * 8 / 2 ^ (56 - 8 * i))).toNat : Int) := by
  rw [wrap_u8', show (56 - 8 * (i : Int)).toNat = 56 - 8 * i by omega, show ((n : Int) * 8) = ((n * 8 : Nat) : Int) by simp, ← Int.ofNat_fdiv, UInt8.toNat_ofNat']
  simp
theorem be_succ (n i : Nat) : be n (i + 1) = be n i ++ [UInt8.ofNat (n * 8 / 2 ^ (56 - 8 * i))] := by
  simp [be, List.range_succ]
theorem be_length (n i : Nat) : (be n i).length = i := by simp [be]
theorem sha_padded (s : List UInt8) (hs : s.length < 1099511627776) : C E 39 [.str s] (.str (pad s)) := by
  refine CG_intro Tryd.func39 rfl (by kernel_rfl) rfl (by kernel_rfl) (by kernel_rfl) rfl ?_
  simp (maxSteps := 3000000) (disch := first | exact trivial | assumption | omega | exact RegOk.mk (by decide +kernel) | exact RegCl.mk (by decide +kernel) | exact RegNo.mk (by kernel_rfl)) only [go_sem, seval]
  refine ⟨by omega, ?_⟩
  refine AL.of (fun j : Nat => j ≤ zer s.length) (fun j => zer s.length - j) (fun j => [(3, .int .u64 ((s.length : Int) * 8)), (4, .sl 0 j 0 (s.length + 1 + j))])
    (fun j => [(0, .row false j false 1 (s.length + 1 + j) (bR (s ++ [128] ++ List.replicate j 0)))]) 0 (by omega) ?_ ?_ ?_ ?_
  · simp (maxSteps := 3000000) (disch := first | exact trivial | assumption | omega | exact RegOk.mk (by decide +kernel) | exact RegCl.mk (by decide +kernel) | exact RegNo.mk (by kernel_rfl)) only [go_sem, seval]
  · simp (maxSteps := 3000000) (disch := first | exact trivial | assumption | omega | exact RegOk.mk (by decide +kernel) | exact RegCl.mk (by decide +kernel) | exact RegNo.mk (by kernel_rfl)) only [go_sem, seval]
    exact fun i hi => Le.of_eq (by simp [bR])
  · intro x _; simp (maxSteps := 3000000) (disch := first | exact trivial | assumption | omega | exact RegOk.mk (by decide +kernel) | exact RegCl.mk (by decide +kernel) | exact RegNo.mk (by kernel_rfl)) only [go_sem, seval]
  intro j hj
  have hz : zer s.length < 64 := by unfold zer; omega
  by_cases h : j = zer s.length
  case neg =>
    have hc : (((s.length + 1 + j : Nat) : Int).tmod 64 != 56) = true := by
      rw [Int.tmod_eq_emod_of_nonneg (by omega), bne_iff_ne]
      unfold zer at h hj
      omega
    simp (maxSteps := 3000000) (disch := first | exact trivial | assumption | omega | exact RegOk.mk (by decide +kernel) | exact RegCl.mk (by decide +kernel) | exact RegNo.mk (by kernel_rfl)) only [go_sem, seval, hc]
    refine ⟨.inl trivial, .inr trivial, by omega, by omega, j + 1, by omega, by show zer s.length - (j+1) < zer s.length - j; omega, ?_, ?_⟩
    · simp (maxSteps := 3000000) (disch := first | exact trivial | assumption | omega | exact RegOk.mk (by decide +kernel) | exact RegCl.mk (by decide +kernel) | exact RegNo.mk (by kernel_rfl)) only [go_sem, seval]
      rw [show s.length + 1 + j + 1 = s.length + 1 + (j + 1) by omega]
      rw [LeV_self]; trivial
    · simp (maxSteps := 3000000) (disch := first | exact trivial | assumption | omega | exact RegOk.mk (by decide +kernel) | exact RegCl.mk (by decide +kernel) | exact RegNo.mk (by kernel_rfl)) only [go_sem, seval]
      refine ⟨by omega, fun i hi => Le.of_eq ?_⟩
      have hlen : (s ++ [128] ++ List.replicate j 0).length = s.length + 1 + j := by simp; omega
      have := bR_app (s ++ [128] ++ List.replicate j 0) [0] (i := i) (by rw [List.length_append, hlen]; simpa using hi)
      rw [hlen] at this
      rw [List.replicate_succ', ← List.append_assoc]; exact this
  subst h
  have hc : (((s.length + 1 + zer s.length : Nat) : Int).tmod 64 != 56) = false := by
    rw [Int.tmod_eq_emod_of_nonneg (by omega)]
    simp only [bne_eq_false_iff_eq]
    unfold zer
    omega
  have hl0 : (s ++ [128] ++ List.replicate (zer s.length) 0).length = s.length + 1 + zer s.length := by simp; omega
  simp (maxSteps := 3000000) (disch := first | exact trivial | assumption | omega | exact RegOk.mk (by decide +kernel) | exact RegCl.mk (by decide +kernel) | exact RegNo.mk (by kernel_rfl)) only [go_sem, seval, hc]
  refine AL.of (fun i : Nat => i ≤ 8) (fun i => 8 - i) (fun i => [(3, .int .u64 ((s.length : Int) * 8)), (4, .sl 0 (zer s.length + i) 0 (s.length + 1 + zer s.length + i)), (20, .int .i64 i)])
    (fun i => [(0, .row false (zer s.length + i) false 1 (s.length + 1 + zer s.length + i) (bR (s ++ [128] ++ List.replicate (zer s.length) 0 ++ be s.length i)))]) 0 (by omega) ?_ ?_ ?_ ?_
  · simp (maxSteps := 3000000) (disch := first | exact trivial | assumption | omega | exact RegOk.mk (by decide +kernel) | exact RegCl.mk (by decide +kernel) | exact RegNo.mk (by kernel_rfl)) only [go_sem, seval]
  · simp (maxSteps := 3000000) (disch := first | exact trivial | assumption | omega | exact RegOk.mk (by decide +kernel) | exact RegCl.mk (by decide +kernel) | exact RegNo.mk (by kernel_rfl)) only [go_sem, seval]
    exact fun i hi => Le.of_eq (by simp [be])
  · intro x _; simp (maxSteps := 3000000) (disch := first | exact trivial | assumption | omega | exact RegOk.mk (by decide +kernel) | exact RegCl.mk (by decide +kernel) | exact RegNo.mk (by kernel_rfl)) only [go_sem, seval]
  intro i hi
  by_cases h : i = 8
  case neg =>
    have hd : decide ((i : Int) < 8) = true := by rw [decide_eq_true_eq]; omega
    simp (maxSteps := 3000000) (disch := first | exact trivial | assumption | omega | exact RegOk.mk (by decide +kernel) | exact RegCl.mk (by decide +kernel) | exact RegNo.mk (by kernel_rfl)) only [go_sem, seval, hd]
    refine ⟨.inl trivial, .inr trivial, by omega, by omega, i + 1, by omega, by show 8 - (i+1) < 8 - i; omega, ?_, ?_⟩
    · simp (maxSteps := 3000000) (disch := first | exact trivial | assumption | omega | exact RegOk.mk (by decide +kernel) | exact RegCl.mk (by decide +kernel) | exact RegNo.mk (by kernel_rfl)) only [go_sem, seval]
      rw [show s.length + 1 + zer s.length + i + 1 = s.length + 1 + zer s.length + (i + 1) by omega]
      rw [Nat.add_assoc _ i 1, LeV_self, Int.natCast_succ, LeV_self]; exact ⟨trivial, trivial⟩
    · simp (maxSteps := 3000000) (disch := first | exact trivial | assumption | omega | exact RegOk.mk (by decide +kernel) | exact RegCl.mk (by decide +kernel) | exact RegNo.mk (by kernel_rfl)) only [go_sem, seval]
      refine ⟨by omega, by omega, fun k hk => Le.of_eq ?_⟩
      have hlen : (s ++ [128] ++ List.replicate (zer s.length) 0 ++ be s.length i).length = s.length + 1 + zer s.length + i := by rw [List.length_append, hl0, be_length]
      have := bR_app (s ++ [128] ++ List.replicate (zer s.length) 0 ++ be s.length i) [UInt8.ofNat (s.length * 8 / 2 ^ (56 - 8 * i))] (i := k) (by rw [List.length_append, hlen]; simpa using hk)
      rw [hlen] at this
      rw [be_succ, ← List.append_assoc, byte_be _ _ (by omega)]; exact this
  subst h
  have hlen : (s ++ [128] ++ List.replicate (zer s.length) 0 ++ be s.length 8).length = s.length + 1 + zer s.length + 8 := by rw [List.length_append, hl0, be_length]
  simp (maxSteps := 3000000) (disch := first | exact trivial | assumption | omega | exact RegOk.mk (by decide +kernel) | exact RegCl.mk (by decide +kernel) | exact RegNo.mk (by kernel_rfl)) only [go_sem, seval]
  rw [bstr_bR rfl hlen.symm]
  simp (maxSteps := 3000000) (disch := first | exact trivial | assumption | omega | exact RegOk.mk (by decide +kernel) | exact RegCl.mk (by decide +kernel) | exact RegNo.mk (by kernel_rfl)) only [go_sem, seval]
  rw [pad, LeV_self]; trivial
end Go.Proofs.YtpobbfhdkbnpmaaDoor.Lv
