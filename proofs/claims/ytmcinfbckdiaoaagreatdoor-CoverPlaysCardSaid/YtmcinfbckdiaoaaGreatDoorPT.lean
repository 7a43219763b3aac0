/- The program's numbers: Gcd. -/
import Derived.Test.YtmcinfbckdiaoaaGreatDoorPS
import Derived.Test.YtmcinfbckdiaoaaGreatDoorMb
set_option linter.unusedVariables false
set_option linter.unusedSimpArgs false
set_option maxRecDepth 100000
set_option maxHeartbeats 4000000
namespace Go.Proofs.YtmcinfbckdiaoaaGreatDoor.Lv
open Go Go.RowKit
theorem gcd_step (a b : Nat) : Nat.gcd b (a % b) = Nat.gcd a b := by
  rw [Nat.gcd_comm a b, Nat.gcd_rec b a, Nat.gcd_comm]
theorem nb_two {b : Nat} (h : nb b ≤ 2) : b < 18446744073709551616 := by
  have := nb_lt.1 h
  rwa [show (4294967296 : Nat) ^ 2 = 18446744073709551616 from rfl] at this
theorem nat_Gcd {a b : Nat} (ha : nb a < 536870000) (hb : nb b < 536870000) : C E 92 [natD a, natD b] (natD (Nat.gcd a b)) := by
  refine CG_intro Tryz.func92 rfl (by kernel_rfl) rfl (by kernel_rfl) (by kernel_rfl) rfl ?_
  simp (maxSteps := 3000000) (disch := first | exact trivial | assumption | omega | exact rOk | exact rCl | exact rNo) only [go_sem, seval]
  generalize hg : Nat.gcd a b = g
  refine AL.of (fun s : Nat × Nat => nb s.1 < 536870000 ∧ nb s.2 < 536870000 ∧ Nat.gcd s.1 s.2 = g) (fun s => s.2) (fun s => [(2, .ad 0 0), (3, .ad 1 0), (4, .ad 2 0)])
    (fun s => [(2, .var true 1 (.agg [.nils])), (1, .var true 1 (natD s.2)), (0, .var true 1 (natD s.1))]) (a, b) ⟨ha, hb, hg⟩ ?_ ?_ ?_ ?_
  · simp (maxSteps := 3000000) (disch := first | exact trivial | assumption | omega | exact rOk | exact rCl | exact rNo) only [go_sem, seval]
  · simp (maxSteps := 3000000) (disch := first | exact trivial | assumption | omega | exact rOk | exact rCl | exact rNo) only [go_sem, seval]
  · intro x _; simp (maxSteps := 3000000) (disch := first | exact trivial | assumption | omega | exact rOk | exact rCl | exact rNo) only [go_sem, seval]
  clear hg ha hb
  rintro ⟨a, b⟩ ⟨ha, hb, hg⟩
  simp only at ha hb hg
  have hlb : (limbs b).length = nb b := rfl
  by_cases h2 : 2 < nb b
  · have hb0 : b ≠ 0 := fun e => by subst e; unfold nb at h2; rw [limbs_zero] at h2; simp at h2
    have hlt : a % b < b := Nat.mod_lt _ (by omega)
    have hm := nb_mono (Nat.le_of_lt hlt)
    simp (maxSteps := 3000000) (disch := first | exact trivial | assumption | omega | exact rOk | exact rCl | exact rNo) only [go_sem, seval, natD, u32s, hlb]
    refine callC (nat_Div ha hb hb0) ?_ rfl ?_
    · simp (maxSteps := 3000000) (disch := first | exact trivial | assumption | omega | exact rOk | exact rCl | exact rNo) only [go_sem, seval, natD_u32s, u32s, hlb]
      try exact LesV.refl _
    simp (maxSteps := 3000000) (disch := first | exact trivial | assumption | omega | exact rOk | exact rCl | exact rNo) only [go_sem, seval, natD, u32s, hlb]
    refine AReg_anyL 4 [0, 1, 2, 3] rfl rfl (by decide +kernel) ?_
    refine AAny_free 0 [1, 2, 3] (by decide +kernel) rfl ?_
    refine AI_at _ rfl ?_
    simp (maxSteps := 3000000) (disch := first | exact trivial | assumption | omega | exact rOk | exact rCl | exact rNo) only [go_sem, seval, natD, u32s, hlb]
    refine AAny_step [(1, [2, 3]), (2, [1, 3])] (by decide +kernel) rfl ?_
    refine forall_more ?_ ?_
    · refine AI_at _ rfl ?_
      simp (maxSteps := 3000000) (disch := first | exact trivial | assumption | omega | exact rOk | exact rCl | exact rNo) only [go_sem, seval, natD, u32s, hlb]
      refine AAny_free 2 [3] (by decide +kernel) rfl ?_
      refine AI_at _ rfl ?_
      simp (maxSteps := 3000000) (disch := first | exact trivial | assumption | omega | exact rOk | exact rCl | exact rNo) only [go_sem, seval, natD, u32s, hlb]
      refine AAny_free 3 [] (by decide +kernel) rfl ?_
      refine AI_at _ rfl ?_
      simp (maxSteps := 3000000) (disch := first | exact trivial | assumption | omega | exact rOk | exact rCl | exact rNo) only [go_sem, seval, natD, u32s, hlb]
      refine AAny_end ?_
      simp (maxSteps := 3000000) (disch := first | exact trivial | assumption | omega | exact rOk | exact rCl | exact rNo) only [go_sem, seval, natD, u32s]
      refine ⟨(b, a % b), ⟨hb, Nat.lt_of_le_of_lt hm hb, by rw [gcd_step]; exact hg⟩, hlt, ?_, ?_⟩
      · simp (maxSteps := 3000000) (disch := first | exact trivial | assumption | omega | exact rOk | exact rCl | exact rNo) only [go_sem, seval, natD, u32s]
      · simp (maxSteps := 3000000) (disch := first | exact trivial | assumption | omega | exact rOk | exact rCl | exact rNo) only [go_sem, seval, natD, u32s, hlb]
    refine forall_one ?_
    refine AI_at _ rfl ?_
    simp (maxSteps := 3000000) (disch := first | exact trivial | assumption | omega | exact rOk | exact rCl | exact rNo) only [go_sem, seval, natD, u32s, hlb]
    refine AAny_free 1 [3] (by decide +kernel) rfl ?_
    refine AI_at _ rfl ?_
    simp (maxSteps := 3000000) (disch := first | exact trivial | assumption | omega | exact rOk | exact rCl | exact rNo) only [go_sem, seval, natD, u32s, hlb]
    refine AAny_free 3 [] (by decide +kernel) rfl ?_
    refine AI_at _ rfl ?_
    simp (maxSteps := 3000000) (disch := first | exact trivial | assumption | omega | exact rOk | exact rCl | exact rNo) only [go_sem, seval, natD, u32s, hlb]
    refine AAny_end ?_
    simp (maxSteps := 3000000) (disch := first | exact trivial | assumption | omega | exact rOk | exact rCl | exact rNo) only [go_sem, seval, natD, u32s]
    refine ⟨(b, a % b), ⟨hb, Nat.lt_of_le_of_lt hm hb, by rw [gcd_step]; exact hg⟩, hlt, ?_, ?_⟩
    · simp (maxSteps := 3000000) (disch := first | exact trivial | assumption | omega | exact rOk | exact rCl | exact rNo) only [go_sem, seval, natD, u32s]
    · simp (maxSteps := 3000000) (disch := first | exact trivial | assumption | omega | exact rOk | exact rCl | exact rNo) only [go_sem, seval, natD, u32s, hlb]
  · have hb64 := nb_two (b := b) (by omega)
    by_cases h0 : b = 0
    · subst h0
      rw [Nat.gcd_zero_right] at hg
      subst hg
      have hl0 : nb 0 = 0 := by unfold nb; rw [limbs_zero]; rfl
      simp (maxSteps := 3000000) (disch := first | exact trivial | assumption | omega | exact rOk | exact rCl | exact rNo) only [go_sem, seval, natD, u32s, hlb, hl0]
    · have hlp := limbs_ne h0
      have hlt : a % b < b := Nat.mod_lt _ (by omega)
      have hm := nb_mono (Nat.le_of_lt hlt)
      simp (maxSteps := 3000000) (disch := first | exact trivial | assumption | omega | exact rOk | exact rCl | exact rNo) only [go_sem, seval, natD, u32s, hlb]
      refine callC (nat_Div ha hb h0) ?_ rfl ?_
      · simp (maxSteps := 3000000) (disch := first | exact trivial | assumption | omega | exact rOk | exact rCl | exact rNo) only [go_sem, seval, natD_u32s, u32s, hlb]
        try exact LesV.refl _
      simp (maxSteps := 3000000) (disch := first | exact trivial | assumption | omega | exact rOk | exact rCl | exact rNo) only [go_sem, seval, natD, u32s, hlb]
      refine callCl (nat_Low (n := b) (by omega)) ?_ rfl ?_
      · simp (maxSteps := 3000000) (disch := first | exact trivial | assumption | omega | exact rOk | exact rCl | exact rNo) only [go_sem, seval, natD_u32s, u32s, hlb]
        try exact LesV.refl _
      simp (maxSteps := 3000000) (disch := first | exact trivial | assumption | omega | exact rOk | exact rCl | exact rNo) only [go_sem, seval, natD, u32s, hlb]
      refine callCl (nat_Low (n := a % b) (by omega)) ?_ rfl ?_
      · simp (maxSteps := 3000000) (disch := first | exact trivial | assumption | omega | exact rOk | exact rCl | exact rNo) only [go_sem, seval, natD_u32s, u32s, hlb]
        try exact LesV.refl _
      rw [Nat.mod_eq_of_lt hb64, Nat.mod_eq_of_lt (show a % b < 18446744073709551616 by omega)]
      simp (maxSteps := 3000000) (disch := first | exact trivial | assumption | omega | exact rOk | exact rCl | exact rNo) only [go_sem, seval, natD, u32s, hlb]
      rw [← gcd_step] at hg
      have hr64 : a % b < 18446744073709551616 := by omega
      refine AL.of (fun s : Nat × Nat => s.1 < 18446744073709551616 ∧ s.2 < 18446744073709551616 ∧ Nat.gcd s.1 s.2 = g) (fun s => s.2) (fun s => [(4, .ad 2 0), (11, .int .u64 s.1), (12, .int .u64 s.2)])
        (fun s => [(2, .var true 1 (.agg [.nils]))]) (b, a % b) ⟨hb64, hr64, hg⟩ ?_ ?_ ?_ ?_
      · simp (maxSteps := 3000000) (disch := first | exact trivial | assumption | omega | exact rOk | exact rCl | exact rNo) only [go_sem, seval]
      · simp (maxSteps := 3000000) (disch := first | exact trivial | assumption | omega | exact rOk | exact rCl | exact rNo) only [go_sem, seval]
      · intro x _; simp (maxSteps := 3000000) (disch := first | exact trivial | assumption | omega | exact rOk | exact rCl | exact rNo) only [go_sem, seval]
      clear hg ha hb h0 hlp hlt hm hb64 hr64 h2 hlb
      rintro ⟨x, y⟩ ⟨hx, hy, hg⟩
      simp only at hx hy hg
      have htm : (x : Int).tmod (y : Int) = ((x % y : Nat) : Int) := (Int.ofNat_tmod _ _).symm
      by_cases hy0 : y = 0
      · subst hy0
        rw [Nat.gcd_zero_right] at hg
        subst hg
        simp (maxSteps := 3000000) (disch := first | exact trivial | assumption | omega | exact rOk | exact rCl | exact rNo) only [go_sem, seval]
        refine callC (nat_Of hx) ?_ rfl ?_
        · simp (maxSteps := 3000000) (disch := first | exact trivial | assumption | omega | exact rOk | exact rCl | exact rNo) only [go_sem, seval]
        simp (maxSteps := 3000000) (disch := first | exact trivial | assumption | omega | exact rOk | exact rCl | exact rNo) only [go_sem, seval, natD, u32s]
      · have hlt : x % y < y := Nat.mod_lt _ (by omega)
        simp (maxSteps := 3000000) (disch := first | exact trivial | assumption | omega | exact rOk | exact rCl | exact rNo) only [go_sem, seval, htm]
        refine ⟨(y, x % y), ⟨hy, Nat.lt_trans hlt hy, by rw [gcd_step]; exact hg⟩, hlt, ?_, ?_⟩
        · simp (maxSteps := 3000000) (disch := first | exact trivial | assumption | omega | exact rOk | exact rCl | exact rNo) only [go_sem, seval]
        · simp (maxSteps := 3000000) (disch := first | exact trivial | assumption | omega | exact rOk | exact rCl | exact rNo) only [go_sem, seval]
end Go.Proofs.YtmcinfbckdiaoaaGreatDoor.Lv
