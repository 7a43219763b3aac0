/- SHA-256: a state behind a block. -/
import Derived.Test.YtpobbfhdkbnpmaaDoorSB
set_option linter.unusedVariables false
set_option linter.unusedSimpArgs false
set_option maxRecDepth 100000
set_option maxHeartbeats 4000000
namespace Go.Proofs.YtpobbfhdkbnpmaaDoor.Lv
open Go Go.RowKit

/-- Eight words. -/
structure W8 where
  a : W32
  b : W32
  c : W32
  d : W32
  e : W32
  f : W32
  g : W32
  h : W32
def W8.D (v : W8) : D := .agg [wD v.a, wD v.b, wD v.c, wD v.d, wD v.e, wD v.f, wD v.g, wD v.h]
/-- One round. -/
def rnd1 (v : W8) (k w : W32) : W8 :=
  let p := rr 6 v.e ^^^ rr 11 v.e ^^^ rr 25 v.e
  let q := rr 2 v.a ^^^ rr 13 v.a ^^^ rr 22 v.a
  let one := v.h + p + (v.e &&& v.f ^^^ ~~~v.e &&& v.g) + k + w
  let two := q + (v.a &&& v.b ^^^ v.a &&& v.c ^^^ v.b &&& v.c)
  ⟨one + two, v.a, v.b, v.c, v.d + one, v.e, v.f, v.g⟩
def rnds (s : W8) (W : List W32) : Nat → W8
  | 0 => s
  | n + 1 => rnd1 (rnds s W n) (K256.getD n 0#32) (W.getD n 0#32)
def W8.add (s v : W8) : W8 := ⟨s.a + v.a, s.b + v.b, s.c + v.c, s.d + v.d, s.e + v.e, s.f + v.f, s.g + v.g, s.h + v.h⟩
def mix (s : W8) (b : List UInt8) : W8 := s.add (rnds s (sched b) 64)
theorem gv_rounds : E.gv 0 = .ra true 64 (.agg (K256.map wD)) 0 := Eq.trans rfl rfl
theorem K_len : K256.length = 64 := rfl
theorem sha_mixed (s : W8) (b : List UInt8) (hb : b.length = 64) : C E 41 [s.D, .str b] (mix s b).D := by
  refine CG_intro Tryd.func41 rfl (by kernel_rfl) rfl (by kernel_rfl) (by kernel_rfl) rfl ?_
  have hk := K_len
  have hl : (sched b).length = 64 := sched_len b
  simp (maxSteps := 3000000) (disch := first | exact trivial | assumption | omega | exact RegOk.mk (by decide +kernel) | exact RegCl.mk (by decide +kernel) | exact RegNo.mk (by kernel_rfl)) only [go_sem, seval, W8.D]
  refine callC (sha_schedule b hb) (LesV.refl _) (wl_cls _) ?_
  simp (maxSteps := 3000000) (disch := first | exact trivial | assumption | omega | exact RegOk.mk (by decide +kernel) | exact RegCl.mk (by decide +kernel) | exact RegNo.mk (by kernel_rfl)) only [go_sem, seval, W8.D, gv_rounds, K_len, hl]
  refine AL.of (fun x : Nat × W8 => x.1 ≤ 64 ∧ x.2 = rnds s (sched b) x.1) (fun x => 64 - x.1)
    (fun x => [(2, .ad 0 0), (4, .ad 1 0), (5, .ad 2 0), (6, .ad 3 0), (19, .agg (K256.map wD)), (20, .int .i64 x.1)])
    (fun x => [(3, .var true 8 x.2.D), (2, .var true 64 (.agg ((sched b).map wD))), (1, .var true 8 (.agg [.int .u32 0, .int .u32 0, .int .u32 0, .int .u32 0, .int .u32 0, .int .u32 0, .int .u32 0, .int .u32 0])), (0, .var true 8 s.D)]) (0, s) ⟨by omega, rfl⟩ ?_ ?_ ?_ ?_
  · simp (maxSteps := 3000000) (disch := first | exact trivial | assumption | omega | exact RegOk.mk (by decide +kernel) | exact RegCl.mk (by decide +kernel) | exact RegNo.mk (by kernel_rfl)) only [go_sem, seval, W8.D]
  · simp (maxSteps := 3000000) (disch := first | exact trivial | assumption | omega | exact RegOk.mk (by decide +kernel) | exact RegCl.mk (by decide +kernel) | exact RegNo.mk (by kernel_rfl)) only [go_sem, seval, W8.D]
  · intro x _; simp (maxSteps := 3000000) (disch := first | exact trivial | assumption | omega | exact RegOk.mk (by decide +kernel) | exact RegCl.mk (by decide +kernel) | exact RegNo.mk (by kernel_rfl)) only [go_sem, seval]
  rintro ⟨n, v⟩ ⟨hn, hv⟩
  simp only at hn hv
  by_cases h : (n : Int) < 64
  · simp (maxSteps := 3000000) (disch := first | exact trivial | assumption | omega | exact RegOk.mk (by decide +kernel) | exact RegCl.mk (by decide +kernel) | exact RegNo.mk (by kernel_rfl)) only [go_sem, seval, h, W8.D, K_len, hl]
    refine callC (bits_Rotate _ 6 (-6) (by decide) (by omega) (by omega)) (LesV.refl _) rfl ?_
    simp (maxSteps := 3000000) (disch := first | exact trivial | assumption | omega | exact RegOk.mk (by decide +kernel) | exact RegCl.mk (by decide +kernel) | exact RegNo.mk (by kernel_rfl)) only [go_sem, seval, W8.D, K_len, hl]
    refine callC (bits_Rotate _ 11 (-11) (by decide) (by omega) (by omega)) (LesV.refl _) rfl ?_
    simp (maxSteps := 3000000) (disch := first | exact trivial | assumption | omega | exact RegOk.mk (by decide +kernel) | exact RegCl.mk (by decide +kernel) | exact RegNo.mk (by kernel_rfl)) only [go_sem, seval, W8.D, K_len, hl]
    refine callC (bits_Rotate _ 25 (-25) (by decide) (by omega) (by omega)) (LesV.refl _) rfl ?_
    simp (maxSteps := 3000000) (disch := first | exact trivial | assumption | omega | exact RegOk.mk (by decide +kernel) | exact RegCl.mk (by decide +kernel) | exact RegNo.mk (by kernel_rfl)) only [go_sem, seval, W8.D, K_len, hl]
    refine callC (bits_Rotate _ 2 (-2) (by decide) (by omega) (by omega)) (LesV.refl _) rfl ?_
    simp (maxSteps := 3000000) (disch := first | exact trivial | assumption | omega | exact RegOk.mk (by decide +kernel) | exact RegCl.mk (by decide +kernel) | exact RegNo.mk (by kernel_rfl)) only [go_sem, seval, W8.D, K_len, hl]
    refine callC (bits_Rotate _ 13 (-13) (by decide) (by omega) (by omega)) (LesV.refl _) rfl ?_
    simp (maxSteps := 3000000) (disch := first | exact trivial | assumption | omega | exact RegOk.mk (by decide +kernel) | exact RegCl.mk (by decide +kernel) | exact RegNo.mk (by kernel_rfl)) only [go_sem, seval, W8.D, K_len, hl]
    refine callC (bits_Rotate _ 22 (-22) (by decide) (by omega) (by omega)) (LesV.refl _) rfl ?_
    simp (maxSteps := 3000000) (disch := first | exact trivial | assumption | omega | exact RegOk.mk (by decide +kernel) | exact RegCl.mk (by decide +kernel) | exact RegNo.mk (by kernel_rfl)) only [go_sem, seval, W8.D, K_len, hl]
    refine ⟨(n + 1, rnd1 v (K256.getD n 0#32) ((sched b).getD n 0#32)), ⟨by show n + 1 ≤ 64; omega, by rw [hv]; rfl⟩, by show 64 - (n + 1) < 64 - n; omega, ?_, ?_⟩
    · simp (maxSteps := 3000000) (disch := first | exact trivial | assumption | omega | exact RegOk.mk (by decide +kernel) | exact RegCl.mk (by decide +kernel) | exact RegNo.mk (by kernel_rfl)) only [go_sem, seval, W8.D]
      exact LeV.of_eq (by simp)
    · simp (maxSteps := 3000000) (disch := first | exact trivial | assumption | omega | exact RegOk.mk (by decide +kernel) | exact RegCl.mk (by decide +kernel) | exact RegNo.mk (by kernel_rfl)) only [go_sem, seval, W8.D, rnd1]
  · obtain rfl : n = 64 := by omega
    simp (maxSteps := 3000000) (disch := first | exact trivial | assumption | omega | exact RegOk.mk (by decide +kernel) | exact RegCl.mk (by decide +kernel) | exact RegNo.mk (by kernel_rfl)) only [go_sem, seval, h, W8.D]
    refine AL.step ?_
    simp (maxSteps := 3000000) (disch := first | exact trivial | assumption | omega | exact RegOk.mk (by decide +kernel) | exact RegCl.mk (by decide +kernel) | exact RegNo.mk (by kernel_rfl)) only [go_sem, seval]
    refine AL.step ?_
    simp (maxSteps := 3000000) (disch := first | exact trivial | assumption | omega | exact RegOk.mk (by decide +kernel) | exact RegCl.mk (by decide +kernel) | exact RegNo.mk (by kernel_rfl)) only [go_sem, seval]
    refine AL.step ?_
    simp (maxSteps := 3000000) (disch := first | exact trivial | assumption | omega | exact RegOk.mk (by decide +kernel) | exact RegCl.mk (by decide +kernel) | exact RegNo.mk (by kernel_rfl)) only [go_sem, seval]
    refine AL.step ?_
    simp (maxSteps := 3000000) (disch := first | exact trivial | assumption | omega | exact RegOk.mk (by decide +kernel) | exact RegCl.mk (by decide +kernel) | exact RegNo.mk (by kernel_rfl)) only [go_sem, seval]
    refine AL.step ?_
    simp (maxSteps := 3000000) (disch := first | exact trivial | assumption | omega | exact RegOk.mk (by decide +kernel) | exact RegCl.mk (by decide +kernel) | exact RegNo.mk (by kernel_rfl)) only [go_sem, seval]
    refine AL.step ?_
    simp (maxSteps := 3000000) (disch := first | exact trivial | assumption | omega | exact RegOk.mk (by decide +kernel) | exact RegCl.mk (by decide +kernel) | exact RegNo.mk (by kernel_rfl)) only [go_sem, seval]
    refine AL.step ?_
    simp (maxSteps := 3000000) (disch := first | exact trivial | assumption | omega | exact RegOk.mk (by decide +kernel) | exact RegCl.mk (by decide +kernel) | exact RegNo.mk (by kernel_rfl)) only [go_sem, seval]
    refine AL.step ?_
    simp (maxSteps := 3000000) (disch := first | exact trivial | assumption | omega | exact RegOk.mk (by decide +kernel) | exact RegCl.mk (by decide +kernel) | exact RegNo.mk (by kernel_rfl)) only [go_sem, seval]
    refine AL.step ?_
    simp (maxSteps := 3000000) (disch := first | exact trivial | assumption | omega | exact RegOk.mk (by decide +kernel) | exact RegCl.mk (by decide +kernel) | exact RegNo.mk (by kernel_rfl)) only [go_sem, seval]
    refine LeV.of_eq ?_
    rw [mix, ← hv]
    rfl
end Go.Proofs.YtpobbfhdkbnpmaaDoor.Lv
