/- SHA-256: the words of a block. -/
import Derived.Test.YtpobbfhdkbnpmaaDoorSA
set_option linter.unusedVariables false
set_option linter.unusedSimpArgs false
set_option maxRecDepth 100000
set_option maxHeartbeats 4000000
namespace Go.Proofs.YtpobbfhdkbnpmaaDoor.Lv
open Go Go.RowKit

def wAt (b : List UInt8) (i : Nat) : W32 := wB (b.getD (4 * i) 0) <<< 24 ||| wB (b.getD (4 * i + 1) 0) <<< 16 ||| wB (b.getD (4 * i + 2) 0) <<< 8 ||| wB (b.getD (4 * i + 3) 0)
/-- Noughts. -/
def z64 : List W32 := List.replicate 64 0
theorem z64_eq : ([.int .u32 0, .int .u32 0, .int .u32 0, .int .u32 0, .int .u32 0, .int .u32 0, .int .u32 0, .int .u32 0, .int .u32 0, .int .u32 0, .int .u32 0, .int .u32 0, .int .u32 0, .int .u32 0, .int .u32 0, .int .u32 0, .int .u32 0, .int .u32 0, .int .u32 0, .int .u32 0, .int .u32 0, .int .u32 0, .int .u32 0, .int .u32 0, .int .u32 0, .int .u32 0, .int .u32 0, .int .u32 0, .int .u32 0, .int .u32 0, .int .u32 0, .int .u32 0, .int .u32 0, .int .u32 0, .int .u32 0, .int .u32 0, .int .u32 0, .int .u32 0, .int .u32 0, .int .u32 0, .int .u32 0, .int .u32 0, .int .u32 0, .int .u32 0, .int .u32 0, .int .u32 0, .int .u32 0, .int .u32 0, .int .u32 0, .int .u32 0, .int .u32 0, .int .u32 0, .int .u32 0, .int .u32 0, .int .u32 0, .int .u32 0, .int .u32 0, .int .u32 0, .int .u32 0, .int .u32 0, .int .u32 0, .int .u32 0, .int .u32 0, .int .u32 0] : List D) = z64.map wD := rfl
theorem z64_len : z64.length = 64 := rfl
def sch0 (b : List UInt8) : Nat → List W32
  | 0 => z64
  | n + 1 => (sch0 b n).set n (wAt b n)
def sg0 (x : W32) : W32 := rr 7 x ^^^ rr 18 x ^^^ x >>> 3
def sg1 (x : W32) : W32 := rr 17 x ^^^ rr 19 x ^^^ x >>> 10
def sch1 (b : List UInt8) : Nat → List W32
  | 0 => sch0 b 16
  | n + 1 => (sch1 b n).set (n + 16) ((sch1 b n).getD n 0 + sg0 ((sch1 b n).getD (n + 1) 0) + (sch1 b n).getD (n + 9) 0 + sg1 ((sch1 b n).getD (n + 14) 0))
def sched (b : List UInt8) : List W32 := sch1 b 48
theorem sch0_len (b : List UInt8) : ∀ n, (sch0 b n).length = 64
  | 0 => rfl
  | n + 1 => by rw [sch0, List.length_set, sch0_len b n]
theorem sch1_len (b : List UInt8) : ∀ n, (sch1 b n).length = 64
  | 0 => sch0_len b 16
  | n + 1 => by rw [sch1, List.length_set, sch1_len b n]
theorem sha_schedule (b : List UInt8) (hb : b.length = 64) : C E 56 [.str b] (.agg ((sched b).map wD)) := by
  refine CG_intro Tryd.func56 rfl (by kernel_rfl) rfl (by kernel_rfl) (by kernel_rfl) rfl ?_
  simp (maxSteps := 3000000) (disch := first | exact trivial | assumption | omega | exact RegOk.mk (by decide +kernel) | exact RegCl.mk (by decide +kernel) | exact RegNo.mk (by kernel_rfl)) only [go_sem, seval, z64_eq, z64_len]
  refine AL.of (fun n : Nat => n ≤ 16) (fun n => 16 - n) (fun n => [(0, .str b), (2, .ad 0 0), (3, .ad 1 0), (10, .int .i64 n)])
    (fun n => [(1, .var true 64 (.agg ((sch0 b n).map wD))), (0, .var true 64 (.agg (z64.map wD)))]) 0 (by omega) ?_ ?_ ?_ ?_
  · simp (maxSteps := 3000000) (disch := first | exact trivial | assumption | omega | exact RegOk.mk (by decide +kernel) | exact RegCl.mk (by decide +kernel) | exact RegNo.mk (by kernel_rfl)) only [go_sem, seval]
  · simp (maxSteps := 3000000) (disch := first | exact trivial | assumption | omega | exact RegOk.mk (by decide +kernel) | exact RegCl.mk (by decide +kernel) | exact RegNo.mk (by kernel_rfl)) only [go_sem, seval]
    exact LeV.of_eq rfl
  · intro n _; simp (maxSteps := 3000000) (disch := first | exact trivial | assumption | omega | exact RegOk.mk (by decide +kernel) | exact RegCl.mk (by decide +kernel) | exact RegNo.mk (by kernel_rfl)) only [go_sem, seval]
  intro n hn
  by_cases h : (n : Int) < 16
  · have hl := sch0_len b n
    have e0 : ((4 : Int) * n).toNat = 4 * n := by omega
    have e1 : ((4 : Int) * n + 1).toNat = 4 * n + 1 := by omega
    have e2 : ((4 : Int) * n + 2).toNat = 4 * n + 2 := by omega
    have e3 : ((4 : Int) * n + 3).toNat = 4 * n + 3 := by omega
    simp (maxSteps := 3000000) (disch := first | exact trivial | assumption | omega | exact RegOk.mk (by decide +kernel) | exact RegCl.mk (by decide +kernel) | exact RegNo.mk (by kernel_rfl)) only [go_sem, seval, h, e0, e1, e2, e3]
    refine ⟨n + 1, by omega, by show 16 - (n + 1) < 16 - n; omega, ?_, ?_⟩
    · simp (maxSteps := 3000000) (disch := first | exact trivial | assumption | omega | exact RegOk.mk (by decide +kernel) | exact RegCl.mk (by decide +kernel) | exact RegNo.mk (by kernel_rfl)) only [go_sem, seval]
      exact LeV.of_eq (by simp)
    · simp (maxSteps := 3000000) (disch := first | exact trivial | assumption | omega | exact RegOk.mk (by decide +kernel) | exact RegCl.mk (by decide +kernel) | exact RegNo.mk (by kernel_rfl)) only [go_sem, seval]
      exact LeV.of_eq (by rw [sch0, wAt])
  · obtain rfl : n = 16 := by omega
    simp (maxSteps := 3000000) (disch := first | exact trivial | assumption | omega | exact RegOk.mk (by decide +kernel) | exact RegCl.mk (by decide +kernel) | exact RegNo.mk (by kernel_rfl)) only [go_sem, seval, h]
    refine AL.of (fun n : Nat => n ≤ 48) (fun n => 48 - n) (fun n => [(2, .ad 0 0), (3, .ad 1 0), (5, .int .i64 ((n + 16 : Nat) : Int))])
      (fun n => [(1, .var true 64 (.agg ((sch1 b n).map wD))), (0, .var true 64 (.agg (z64.map wD)))]) 0 (by omega) ?_ ?_ ?_ ?_
    · simp (maxSteps := 3000000) (disch := first | exact trivial | assumption | omega | exact RegOk.mk (by decide +kernel) | exact RegCl.mk (by decide +kernel) | exact RegNo.mk (by kernel_rfl)) only [go_sem, seval]
    · simp (maxSteps := 3000000) (disch := first | exact trivial | assumption | omega | exact RegOk.mk (by decide +kernel) | exact RegCl.mk (by decide +kernel) | exact RegNo.mk (by kernel_rfl)) only [go_sem, seval]
      exact LeV.of_eq rfl
    · intro n _; simp (maxSteps := 3000000) (disch := first | exact trivial | assumption | omega | exact RegOk.mk (by decide +kernel) | exact RegCl.mk (by decide +kernel) | exact RegNo.mk (by kernel_rfl)) only [go_sem, seval]
    intro n hn
    have hl := sch1_len b n
    by_cases h : ((n + 16 : Nat) : Int) < 64
    · have e0 : (((n + 16 : Nat) : Int) - 15).toNat = n + 1 := by omega
      have e1 : (((n + 16 : Nat) : Int) - 2).toNat = n + 14 := by omega
      have e2 : (((n + 16 : Nat) : Int) - 16).toNat = n := by omega
      have e3 : (((n + 16 : Nat) : Int) - 7).toNat = n + 9 := by omega
      simp (maxSteps := 3000000) (disch := first | exact trivial | assumption | omega | exact RegOk.mk (by decide +kernel) | exact RegCl.mk (by decide +kernel) | exact RegNo.mk (by kernel_rfl)) only [go_sem, seval, h, e0, e1]
      refine callC (bits_Rotate _ 7 (-7) (by decide) (by omega) (by omega)) (LesV.refl _) rfl ?_
      simp (maxSteps := 3000000) (disch := first | exact trivial | assumption | omega | exact RegOk.mk (by decide +kernel) | exact RegCl.mk (by decide +kernel) | exact RegNo.mk (by kernel_rfl)) only [go_sem, seval]
      refine callC (bits_Rotate _ 18 (-18) (by decide) (by omega) (by omega)) (LesV.refl _) rfl ?_
      simp (maxSteps := 3000000) (disch := first | exact trivial | assumption | omega | exact RegOk.mk (by decide +kernel) | exact RegCl.mk (by decide +kernel) | exact RegNo.mk (by kernel_rfl)) only [go_sem, seval]
      refine callC (bits_Rotate _ 17 (-17) (by decide) (by omega) (by omega)) (LesV.refl _) rfl ?_
      simp (maxSteps := 3000000) (disch := first | exact trivial | assumption | omega | exact RegOk.mk (by decide +kernel) | exact RegCl.mk (by decide +kernel) | exact RegNo.mk (by kernel_rfl)) only [go_sem, seval]
      refine callC (bits_Rotate _ 19 (-19) (by decide) (by omega) (by omega)) (LesV.refl _) rfl ?_
      simp (maxSteps := 3000000) (disch := first | exact trivial | assumption | omega | exact RegOk.mk (by decide +kernel) | exact RegCl.mk (by decide +kernel) | exact RegNo.mk (by kernel_rfl)) only [go_sem, seval, e2, e3]
      refine ⟨n + 1, by omega, by show 48 - (n + 1) < 48 - n; omega, ?_, ?_⟩
      · simp (maxSteps := 3000000) (disch := first | exact trivial | assumption | omega | exact RegOk.mk (by decide +kernel) | exact RegCl.mk (by decide +kernel) | exact RegNo.mk (by kernel_rfl)) only [go_sem, seval]
        exact LeV.of_eq (by congr 1)
      · simp (maxSteps := 3000000) (disch := first | exact trivial | assumption | omega | exact RegOk.mk (by decide +kernel) | exact RegCl.mk (by decide +kernel) | exact RegNo.mk (by kernel_rfl)) only [go_sem, seval]
        exact LeV.of_eq (by rw [sch1, sg0, sg1]; rfl)
    · obtain rfl : n = 48 := by omega
      simp (maxSteps := 3000000) (disch := first | exact trivial | assumption | omega | exact RegOk.mk (by decide +kernel) | exact RegCl.mk (by decide +kernel) | exact RegNo.mk (by kernel_rfl)) only [go_sem, seval, h]
      exact ⟨by rw [hl]; rfl, LeV.of_eq rfl⟩
theorem sched_len (b : List UInt8) : (sched b).length = 64 := sch1_len b 48
attribute [irreducible] sched
end Go.Proofs.YtpobbfhdkbnpmaaDoor.Lv
