/- The law of the account of boxes: how many, how deep: the walk. -/
import Derived.Test.YtmcinfbckdiaoaaGreatDoorRd
set_option linter.unusedVariables false
set_option linter.unusedSimpArgs false
set_option maxRecDepth 100000
set_option maxHeartbeats 4000000
namespace Go.Proofs.YtmcinfbckdiaoaaGreatDoor.Lv
open Go Go.RowKit
/-- A row of whole numbers. -/
def iR (l : List Int) : Nat → D := fun i => .int .i64 (l.getD i 0)
def I64 (n : Int) : Prop := -9223372036854775808 ≤ n ∧ n ≤ 9223372036854775807
theorem coverCounts (l : List (Txt × Txt)) (depth : Int) (acts : List Int) : C E 5 [txD l, .int .i64 depth, .ro false 1 acts.length (iR acts)] (.bool true) := by
  refine CG_intro Tryz.func5 rfl (by kernel_rfl) rfl (by kernel_rfl) (by kernel_rfl) rfl ?_
  by_cases hok : okBx l
  case neg =>
    simp (maxSteps := 3000000) (disch := first | exact trivial | assumption | omega | exact RegOk.mk (by decide +kernel) | exact RegCl.mk (by decide +kernel) | exact RegNo.mk (by kernel_rfl)) only [go_sem, seval]
    refine callC (law6_Of_no hok) ?_ rfl ?_
    · simp (maxSteps := 3000000) (disch := first | exact trivial | assumption | omega | exact RegOk.mk (by decide +kernel) | exact RegCl.mk (by decide +kernel) | exact RegNo.mk (by kernel_rfl)) only [go_sem, seval]
      try exact LesV.refl _
    simp (maxSteps := 3000000) (disch := first | exact trivial | assumption | omega | exact RegOk.mk (by decide +kernel) | exact RegCl.mk (by decide +kernel) | exact RegNo.mk (by kernel_rfl)) only [go_sem, seval]
    refine callC alive24 ?_ rfl ?_
    · simp (maxSteps := 3000000) (disch := first | exact trivial | assumption | omega | exact RegOk.mk (by decide +kernel) | exact RegCl.mk (by decide +kernel) | exact RegNo.mk (by kernel_rfl)) only [go_sem, seval]
    simp (maxSteps := 3000000) (disch := first | exact trivial | assumption | omega | exact RegOk.mk (by decide +kernel) | exact RegCl.mk (by decide +kernel) | exact RegNo.mk (by kernel_rfl)) only [go_sem, seval]
  case pos =>
    obtain ⟨hb, hb1, hb3⟩ := boxR_ok hok.2
    have hO := law6_Of_yes hok
    generalize (boxR l).1 = b at *
    generalize hm : b.length = m at *
    by_cases ha : acts.length ≤ 60
    case neg =>
      simp (maxSteps := 3000000) (disch := first | exact trivial | assumption | omega | exact RegOk.mk (by decide +kernel) | exact RegCl.mk (by decide +kernel) | exact RegNo.mk (by kernel_rfl)) only [go_sem, seval]
      refine callC hO ?_ rfl ?_
      · simp (maxSteps := 3000000) (disch := first | exact trivial | assumption | omega | exact RegOk.mk (by decide +kernel) | exact RegCl.mk (by decide +kernel) | exact RegNo.mk (by kernel_rfl)) only [go_sem, seval]
        try exact LesV.refl _
      simp (maxSteps := 3000000) (disch := first | exact trivial | assumption | omega | exact RegOk.mk (by decide +kernel) | exact RegCl.mk (by decide +kernel) | exact RegNo.mk (by kernel_rfl)) only [go_sem, seval]
      refine callC alive24 ?_ rfl ?_
      · simp (maxSteps := 3000000) (disch := first | exact trivial | assumption | omega | exact RegOk.mk (by decide +kernel) | exact RegCl.mk (by decide +kernel) | exact RegNo.mk (by kernel_rfl)) only [go_sem, seval]
      simp (maxSteps := 3000000) (disch := first | exact trivial | assumption | omega | exact RegOk.mk (by decide +kernel) | exact RegCl.mk (by decide +kernel) | exact RegNo.mk (by kernel_rfl)) only [go_sem, seval]
      refine callC alive24 ?_ rfl ?_
      · simp (maxSteps := 3000000) (disch := first | exact trivial | assumption | omega | exact RegOk.mk (by decide +kernel) | exact RegCl.mk (by decide +kernel) | exact RegNo.mk (by kernel_rfl)) only [go_sem, seval]
      simp (maxSteps := 3000000) (disch := first | exact trivial | assumption | omega | exact RegOk.mk (by decide +kernel) | exact RegCl.mk (by decide +kernel) | exact RegNo.mk (by kernel_rfl)) only [go_sem, seval]
    case pos =>
      have hW := book_Within depth (m := 9) (by omega)
      obtain ⟨w1, w2⟩ := wiK_in depth 9
      generalize wiK depth 9 = dd at *
      obtain ⟨dn, rfl⟩ := Int.eq_ofNat_of_zero_le w1
      have w2' : dn ≤ 9 := by omega
      have hbq : ∀ p ∈ b, qs p.1 ∧ qs p.2 := fun p hp => ⟨(hb.2.2 p hp).1.qs (by omega), (hb.2.2 p hp).2.qs (by omega)⟩
      have hN := cov_New (l := b) hbq (by omega) (dn : Int) hb.1
      simp (maxSteps := 3000000) (disch := first | exact trivial | assumption | omega | exact RegOk.mk (by decide +kernel) | exact RegCl.mk (by decide +kernel) | exact RegNo.mk (by kernel_rfl)) only [go_sem, seval]
      refine callC hO ?_ rfl ?_
      · simp (maxSteps := 3000000) (disch := first | exact trivial | assumption | omega | exact RegOk.mk (by decide +kernel) | exact RegCl.mk (by decide +kernel) | exact RegNo.mk (by kernel_rfl)) only [go_sem, seval]
        try exact LesV.refl _
      simp (maxSteps := 3000000) (disch := first | exact trivial | assumption | omega | exact RegOk.mk (by decide +kernel) | exact RegCl.mk (by decide +kernel) | exact RegNo.mk (by kernel_rfl)) only [go_sem, seval]
      refine callC alive24 ?_ rfl ?_
      · simp (maxSteps := 3000000) (disch := first | exact trivial | assumption | omega | exact RegOk.mk (by decide +kernel) | exact RegCl.mk (by decide +kernel) | exact RegNo.mk (by kernel_rfl)) only [go_sem, seval]
      simp (maxSteps := 3000000) (disch := first | exact trivial | assumption | omega | exact RegOk.mk (by decide +kernel) | exact RegCl.mk (by decide +kernel) | exact RegNo.mk (by kernel_rfl)) only [go_sem, seval]
      refine callC hW ?_ rfl ?_
      · simp (maxSteps := 3000000) (disch := first | exact trivial | assumption | omega | exact RegOk.mk (by decide +kernel) | exact RegCl.mk (by decide +kernel) | exact RegNo.mk (by kernel_rfl)) only [go_sem, seval]
        try exact LesV.refl _
      simp (maxSteps := 3000000) (disch := first | exact trivial | assumption | omega | exact RegOk.mk (by decide +kernel) | exact RegCl.mk (by decide +kernel) | exact RegNo.mk (by kernel_rfl)) only [go_sem, seval]
      refine callN hN ?_ ?_
      · simp (maxSteps := 3000000) (disch := first | exact trivial | assumption | omega | exact RegOk.mk (by decide +kernel) | exact RegCl.mk (by decide +kernel) | exact RegNo.mk (by kernel_rfl)) only [go_sem, seval]
        try exact LesV.refl _
      simp (maxSteps := 3000000) (disch := first | exact trivial | assumption | omega | exact RegOk.mk (by decide +kernel) | exact RegCl.mk (by decide +kernel) | exact RegNo.mk (by kernel_rfl)) only [go_sem, seval]
      refine AL.of (fun x : Nat × Nat × Nat × Nat × (Nat → D) => x.1 ≤ acts.length ∧ x.2.2.2.1 ≤ x.2.2.1 ∧ x.2.2.2.1 ≤ x.1 + 1 ∧ ∀ j, j < x.2.2.2.1 → ∃ p, x.2.2.2.2 j = plD p ∧ PlP m dn p) (fun x => acts.length - x.1)
        (fun x => [(1, .int .i64 (dn : Int)), (2, .ro false 1 acts.length (iR acts)), (10, .ad 1 0), (11, .int .i64 x.2.2.2.1), (12, .int .i64 x.1)])
        (fun x => [(1, .var true 2 (.agg [.sl 0 x.2.1 0 x.2.2.2.1, .int .i64 (dn : Int)])), (0, .row false x.2.1 true 2 x.2.2.1 x.2.2.2.2)]) (0, 0, 1, 1, fun _ => plD (b, 0))
        ⟨Nat.zero_le _, Nat.le_refl _, Nat.le_refl _, fun j hj => ⟨_, rfl, 0, rfl, Nat.zero_le _, hb⟩⟩ ?_ ?_ ?_ ?_
      · simp (maxSteps := 3000000) (disch := first | exact trivial | assumption | omega | exact RegOk.mk (by decide +kernel) | exact RegCl.mk (by decide +kernel) | exact RegNo.mk (by kernel_rfl)) only [go_sem, seval]
        try exact LesV.refl _
      · simp (maxSteps := 3000000) (disch := first | exact trivial | assumption | omega | exact RegOk.mk (by decide +kernel) | exact RegCl.mk (by decide +kernel) | exact RegNo.mk (by kernel_rfl)) only [go_sem, seval]
        try exact fun _ _ => trivial
        try exact fun i hi => Le.refl _
      · intro x _; simp (maxSteps := 3000000) (disch := first | exact trivial | assumption | omega | exact RegOk.mk (by decide +kernel) | exact RegCl.mk (by decide +kernel) | exact RegNo.mk (by kernel_rfl)) only [go_sem, seval]
      clear hO hW hN hok hb hbq w1 w2
      rintro ⟨k, v, N, n, f⟩ ⟨hk, p1, p2, p3⟩
      simp only at hk p1 p2 p3
      by_cases hkl : k = acts.length
      · subst hkl
        simp (maxSteps := 3000000) (disch := first | exact trivial | assumption | omega | exact RegOk.mk (by decide +kernel) | exact RegCl.mk (by decide +kernel) | exact RegNo.mk (by kernel_rfl)) only [go_sem, seval]
      have hk' : k < acts.length := by omega
      have ek : ((k : Nat) : Int).toNat = k := by omega
      have hak : iR acts k = .int .i64 (acts.getD k 0) := rfl
      generalize acts.getD k 0 = a at *
      by_cases ha10 : a ≥ 10
      · rcases n with _ | n
        · have c0 := cov_Close0 v N (dn : Int) f
          unfold cvH at c0
          simp (maxSteps := 3000000) (disch := first | exact trivial | assumption | omega | exact RegOk.mk (by decide +kernel) | exact RegCl.mk (by decide +kernel) | exact RegNo.mk (by kernel_rfl)) only [go_sem, seval, ek, hak]
          refine callG [1, 0] c0 rfl (by simp (maxSteps := 3000000) (disch := first | exact trivial | assumption | omega | exact RegOk.mk (by decide +kernel) | exact RegCl.mk (by decide +kernel) | exact RegNo.mk (by kernel_rfl)) only [go_sem, seval]) ?_ ?_ ?_
          · simp (maxSteps := 3000000) (disch := first | exact trivial | assumption | omega | exact RegOk.mk (by decide +kernel) | exact RegCl.mk (by decide +kernel) | exact RegNo.mk (by kernel_rfl)) only [go_sem, seval]
            try exact LesV.refl _
          · simp (maxSteps := 3000000) (disch := first | exact trivial | assumption | omega | exact RegOk.mk (by decide +kernel) | exact RegCl.mk (by decide +kernel) | exact RegNo.mk (by kernel_rfl)) only [go_sem, seval]
          try simp (maxSteps := 3000000) (disch := first | exact trivial | assumption | omega | exact RegOk.mk (by decide +kernel) | exact RegCl.mk (by decide +kernel) | exact RegNo.mk (by kernel_rfl)) only [go_sem, seval]
          have hT : 0 ≤ N ∧ 0 ≤ k + 2 ∧ ∀ j, j < 0 → ∃ p, f j = plD p ∧ PlP m dn p := ⟨by omega, by omega, fun j hj => p3 j (by omega)⟩
          generalize v = v2, N = N2, f = f2 at *
          clear p1 p2 p3
          obtain ⟨t1, t2, t3⟩ := hT
          have c1 := cov_Top0 v2 N2 (dn : Int) f2
          have c2 := cov_Left v2 N2 (dn : Int) (n := 0) f2 (by omega)
          unfold cvH at c1 c2
          try simp (maxSteps := 3000000) (disch := first | exact trivial | assumption | omega | exact RegOk.mk (by decide +kernel) | exact RegCl.mk (by decide +kernel) | exact RegNo.mk (by kernel_rfl)) only [go_sem, seval]
          refine callG [1, 0] c1 rfl (by simp (maxSteps := 3000000) (disch := first | exact trivial | assumption | omega | exact RegOk.mk (by decide +kernel) | exact RegCl.mk (by decide +kernel) | exact RegNo.mk (by kernel_rfl)) only [go_sem, seval]) ?_ ?_ ?_
          · simp (maxSteps := 3000000) (disch := first | exact trivial | assumption | omega | exact RegOk.mk (by decide +kernel) | exact RegCl.mk (by decide +kernel) | exact RegNo.mk (by kernel_rfl)) only [go_sem, seval]
            try exact LesV.refl _
          · simp (maxSteps := 3000000) (disch := first | exact trivial | assumption | omega | exact RegOk.mk (by decide +kernel) | exact RegCl.mk (by decide +kernel) | exact RegNo.mk (by kernel_rfl)) only [go_sem, seval]
          try simp (maxSteps := 3000000) (disch := first | exact trivial | assumption | omega | exact RegOk.mk (by decide +kernel) | exact RegCl.mk (by decide +kernel) | exact RegNo.mk (by kernel_rfl)) only [go_sem, seval]
          refine callG [1, 0] c2 rfl (by simp (maxSteps := 3000000) (disch := first | exact trivial | assumption | omega | exact RegOk.mk (by decide +kernel) | exact RegCl.mk (by decide +kernel) | exact RegNo.mk (by kernel_rfl)) only [go_sem, seval]) ?_ ?_ ?_
          · simp (maxSteps := 3000000) (disch := first | exact trivial | assumption | omega | exact RegOk.mk (by decide +kernel) | exact RegCl.mk (by decide +kernel) | exact RegNo.mk (by kernel_rfl)) only [go_sem, seval]
            try exact LesV.refl _
          · simp (maxSteps := 3000000) (disch := first | exact trivial | assumption | omega | exact RegOk.mk (by decide +kernel) | exact RegCl.mk (by decide +kernel) | exact RegNo.mk (by kernel_rfl)) only [go_sem, seval]
          try simp (maxSteps := 3000000) (disch := first | exact trivial | assumption | omega | exact RegOk.mk (by decide +kernel) | exact RegCl.mk (by decide +kernel) | exact RegNo.mk (by kernel_rfl)) only [go_sem, seval]
          refine ⟨(k + 1, v2, N2, 0, f2), ⟨by show k + 1 ≤ _; omega, t1, by show 0 ≤ k + 1 + 1; omega, t3⟩, by show acts.length - (k + 1) < acts.length - k; omega, ?_, ?_⟩
          · simp (maxSteps := 3000000) (disch := first | exact trivial | assumption | omega | exact RegOk.mk (by decide +kernel) | exact RegCl.mk (by decide +kernel) | exact RegNo.mk (by kernel_rfl)) only [go_sem, seval]
            try exact LeV_int (by omega)
            try exact ⟨LeV_int (by omega), LeV_int (by omega)⟩
          · simp (maxSteps := 3000000) (disch := first | exact trivial | assumption | omega | exact RegOk.mk (by decide +kernel) | exact RegCl.mk (by decide +kernel) | exact RegNo.mk (by kernel_rfl)) only [go_sem, seval]
            try exact fun _ _ => trivial
            try exact fun _ _ => Le.refl _
        · have c0 := cov_Close v N (dn : Int) (n := n) f (by omega)
          unfold cvH at c0
          simp (maxSteps := 3000000) (disch := first | exact trivial | assumption | omega | exact RegOk.mk (by decide +kernel) | exact RegCl.mk (by decide +kernel) | exact RegNo.mk (by kernel_rfl)) only [go_sem, seval, ek, hak]
          refine callG [1, 0] c0 rfl (by simp (maxSteps := 3000000) (disch := first | exact trivial | assumption | omega | exact RegOk.mk (by decide +kernel) | exact RegCl.mk (by decide +kernel) | exact RegNo.mk (by kernel_rfl)) only [go_sem, seval]) ?_ ?_ ?_
          · simp (maxSteps := 3000000) (disch := first | exact trivial | assumption | omega | exact RegOk.mk (by decide +kernel) | exact RegCl.mk (by decide +kernel) | exact RegNo.mk (by kernel_rfl)) only [go_sem, seval]
            try exact LesV.refl _
          · simp (maxSteps := 3000000) (disch := first | exact trivial | assumption | omega | exact RegOk.mk (by decide +kernel) | exact RegCl.mk (by decide +kernel) | exact RegNo.mk (by kernel_rfl)) only [go_sem, seval]
          try simp (maxSteps := 3000000) (disch := first | exact trivial | assumption | omega | exact RegOk.mk (by decide +kernel) | exact RegCl.mk (by decide +kernel) | exact RegNo.mk (by kernel_rfl)) only [go_sem, seval]
          have hT : n ≤ N ∧ n ≤ k + 2 ∧ ∀ j, j < n → ∃ p, f j = plD p ∧ PlP m dn p := ⟨by omega, by omega, fun j hj => p3 j (by omega)⟩
          generalize v = v2, N = N2, f = f2 at *
          rcases n with _ | n
          · skip
            clear p1 p2 p3
            obtain ⟨t1, t2, t3⟩ := hT
            have c1 := cov_Top0 v2 N2 (dn : Int) f2
            have c2 := cov_Left v2 N2 (dn : Int) (n := 0) f2 (by omega)
            unfold cvH at c1 c2
            try simp (maxSteps := 3000000) (disch := first | exact trivial | assumption | omega | exact RegOk.mk (by decide +kernel) | exact RegCl.mk (by decide +kernel) | exact RegNo.mk (by kernel_rfl)) only [go_sem, seval]
            refine callG [1, 0] c1 rfl (by simp (maxSteps := 3000000) (disch := first | exact trivial | assumption | omega | exact RegOk.mk (by decide +kernel) | exact RegCl.mk (by decide +kernel) | exact RegNo.mk (by kernel_rfl)) only [go_sem, seval]) ?_ ?_ ?_
            · simp (maxSteps := 3000000) (disch := first | exact trivial | assumption | omega | exact RegOk.mk (by decide +kernel) | exact RegCl.mk (by decide +kernel) | exact RegNo.mk (by kernel_rfl)) only [go_sem, seval]
              try exact LesV.refl _
            · simp (maxSteps := 3000000) (disch := first | exact trivial | assumption | omega | exact RegOk.mk (by decide +kernel) | exact RegCl.mk (by decide +kernel) | exact RegNo.mk (by kernel_rfl)) only [go_sem, seval]
            try simp (maxSteps := 3000000) (disch := first | exact trivial | assumption | omega | exact RegOk.mk (by decide +kernel) | exact RegCl.mk (by decide +kernel) | exact RegNo.mk (by kernel_rfl)) only [go_sem, seval]
            refine callG [1, 0] c2 rfl (by simp (maxSteps := 3000000) (disch := first | exact trivial | assumption | omega | exact RegOk.mk (by decide +kernel) | exact RegCl.mk (by decide +kernel) | exact RegNo.mk (by kernel_rfl)) only [go_sem, seval]) ?_ ?_ ?_
            · simp (maxSteps := 3000000) (disch := first | exact trivial | assumption | omega | exact RegOk.mk (by decide +kernel) | exact RegCl.mk (by decide +kernel) | exact RegNo.mk (by kernel_rfl)) only [go_sem, seval]
              try exact LesV.refl _
            · simp (maxSteps := 3000000) (disch := first | exact trivial | assumption | omega | exact RegOk.mk (by decide +kernel) | exact RegCl.mk (by decide +kernel) | exact RegNo.mk (by kernel_rfl)) only [go_sem, seval]
            try simp (maxSteps := 3000000) (disch := first | exact trivial | assumption | omega | exact RegOk.mk (by decide +kernel) | exact RegCl.mk (by decide +kernel) | exact RegNo.mk (by kernel_rfl)) only [go_sem, seval]
            refine ⟨(k + 1, v2, N2, 0, f2), ⟨by show k + 1 ≤ _; omega, t1, by show 0 ≤ k + 1 + 1; omega, t3⟩, by show acts.length - (k + 1) < acts.length - k; omega, ?_, ?_⟩
            · simp (maxSteps := 3000000) (disch := first | exact trivial | assumption | omega | exact RegOk.mk (by decide +kernel) | exact RegCl.mk (by decide +kernel) | exact RegNo.mk (by kernel_rfl)) only [go_sem, seval]
              try exact LeV_int (by omega)
              try exact ⟨LeV_int (by omega), LeV_int (by omega)⟩
            · simp (maxSteps := 3000000) (disch := first | exact trivial | assumption | omega | exact RegOk.mk (by decide +kernel) | exact RegCl.mk (by decide +kernel) | exact RegNo.mk (by kernel_rfl)) only [go_sem, seval]
              try exact fun _ _ => trivial
              try exact fun _ _ => Le.refl _
          · skip
            clear p1 p2 p3
            obtain ⟨t1, t2, t3⟩ := hT
            obtain ⟨p, hp2, z, z1, z2, z3⟩ := t3 (n) (by omega)
            have zl := z3.2.1
            have zn : p.1 ≠ [] := fun e => by rw [e] at zl; simp at zl; omega
            have c1 := cov_Top v2 N2 (dn : Int) f2 (n := n) (by omega) (by omega) hp2 zn (by omega)
            have c2 := cov_Left v2 N2 (dn : Int) (n := n + 1) f2 (by omega)
            unfold cvH at c1 c2
            rw [z1] at c1
            try simp (maxSteps := 3000000) (disch := first | exact trivial | assumption | omega | exact RegOk.mk (by decide +kernel) | exact RegCl.mk (by decide +kernel) | exact RegNo.mk (by kernel_rfl)) only [go_sem, seval]
            refine callG [1, 0] c1 rfl (by simp (maxSteps := 3000000) (disch := first | exact trivial | assumption | omega | exact RegOk.mk (by decide +kernel) | exact RegCl.mk (by decide +kernel) | exact RegNo.mk (by kernel_rfl)) only [go_sem, seval]) ?_ ?_ ?_
            · simp (maxSteps := 3000000) (disch := first | exact trivial | assumption | omega | exact RegOk.mk (by decide +kernel) | exact RegCl.mk (by decide +kernel) | exact RegNo.mk (by kernel_rfl)) only [go_sem, seval]
              try exact LesV.refl _
            · simp (maxSteps := 3000000) (disch := first | exact trivial | assumption | omega | exact RegOk.mk (by decide +kernel) | exact RegCl.mk (by decide +kernel) | exact RegNo.mk (by kernel_rfl)) only [go_sem, seval]
            try simp (maxSteps := 3000000) (disch := first | exact trivial | assumption | omega | exact RegOk.mk (by decide +kernel) | exact RegCl.mk (by decide +kernel) | exact RegNo.mk (by kernel_rfl)) only [go_sem, seval]
            refine callG [1, 0] c2 rfl (by simp (maxSteps := 3000000) (disch := first | exact trivial | assumption | omega | exact RegOk.mk (by decide +kernel) | exact RegCl.mk (by decide +kernel) | exact RegNo.mk (by kernel_rfl)) only [go_sem, seval]) ?_ ?_ ?_
            · simp (maxSteps := 3000000) (disch := first | exact trivial | assumption | omega | exact RegOk.mk (by decide +kernel) | exact RegCl.mk (by decide +kernel) | exact RegNo.mk (by kernel_rfl)) only [go_sem, seval]
              try exact LesV.refl _
            · simp (maxSteps := 3000000) (disch := first | exact trivial | assumption | omega | exact RegOk.mk (by decide +kernel) | exact RegCl.mk (by decide +kernel) | exact RegNo.mk (by kernel_rfl)) only [go_sem, seval]
            try simp (maxSteps := 3000000) (disch := first | exact trivial | assumption | omega | exact RegOk.mk (by decide +kernel) | exact RegCl.mk (by decide +kernel) | exact RegNo.mk (by kernel_rfl)) only [go_sem, seval]
            refine ⟨(k + 1, v2, N2, n + 1, f2), ⟨by show k + 1 ≤ _; omega, t1, by show n + 1 ≤ k + 1 + 1; omega, t3⟩, by show acts.length - (k + 1) < acts.length - k; omega, ?_, ?_⟩
            · simp (maxSteps := 3000000) (disch := first | exact trivial | assumption | omega | exact RegOk.mk (by decide +kernel) | exact RegCl.mk (by decide +kernel) | exact RegNo.mk (by kernel_rfl)) only [go_sem, seval]
              try exact LeV_int (by omega)
              try exact ⟨LeV_int (by omega), LeV_int (by omega)⟩
            · simp (maxSteps := 3000000) (disch := first | exact trivial | assumption | omega | exact RegOk.mk (by decide +kernel) | exact RegCl.mk (by decide +kernel) | exact RegNo.mk (by kernel_rfl)) only [go_sem, seval]
              try exact fun _ _ => trivial
              try exact fun _ _ => Le.refl _
      · rcases n with _ | n
        · have c0 := cov_Split0 v N (dn : Int) f a
          unfold cvH at c0
          simp (maxSteps := 3000000) (disch := first | exact trivial | assumption | omega | exact RegOk.mk (by decide +kernel) | exact RegCl.mk (by decide +kernel) | exact RegNo.mk (by kernel_rfl)) only [go_sem, seval, ek, hak]
          refine callG [1, 0] c0 rfl (by simp (maxSteps := 3000000) (disch := first | exact trivial | assumption | omega | exact RegOk.mk (by decide +kernel) | exact RegCl.mk (by decide +kernel) | exact RegNo.mk (by kernel_rfl)) only [go_sem, seval]) ?_ ?_ ?_
          · simp (maxSteps := 3000000) (disch := first | exact trivial | assumption | omega | exact RegOk.mk (by decide +kernel) | exact RegCl.mk (by decide +kernel) | exact RegNo.mk (by kernel_rfl)) only [go_sem, seval]
            try exact LesV.refl _
          · simp (maxSteps := 3000000) (disch := first | exact trivial | assumption | omega | exact RegOk.mk (by decide +kernel) | exact RegCl.mk (by decide +kernel) | exact RegNo.mk (by kernel_rfl)) only [go_sem, seval]
          try simp (maxSteps := 3000000) (disch := first | exact trivial | assumption | omega | exact RegOk.mk (by decide +kernel) | exact RegCl.mk (by decide +kernel) | exact RegNo.mk (by kernel_rfl)) only [go_sem, seval]
          have hT : 0 ≤ N ∧ 0 ≤ k + 2 ∧ ∀ j, j < 0 → ∃ p, f j = plD p ∧ PlP m dn p := ⟨by omega, by omega, fun j hj => p3 j (by omega)⟩
          generalize v = v2, N = N2, f = f2 at *
          clear p1 p2 p3
          obtain ⟨t1, t2, t3⟩ := hT
          have c1 := cov_Top0 v2 N2 (dn : Int) f2
          have c2 := cov_Left v2 N2 (dn : Int) (n := 0) f2 (by omega)
          unfold cvH at c1 c2
          try simp (maxSteps := 3000000) (disch := first | exact trivial | assumption | omega | exact RegOk.mk (by decide +kernel) | exact RegCl.mk (by decide +kernel) | exact RegNo.mk (by kernel_rfl)) only [go_sem, seval]
          refine callG [1, 0] c1 rfl (by simp (maxSteps := 3000000) (disch := first | exact trivial | assumption | omega | exact RegOk.mk (by decide +kernel) | exact RegCl.mk (by decide +kernel) | exact RegNo.mk (by kernel_rfl)) only [go_sem, seval]) ?_ ?_ ?_
          · simp (maxSteps := 3000000) (disch := first | exact trivial | assumption | omega | exact RegOk.mk (by decide +kernel) | exact RegCl.mk (by decide +kernel) | exact RegNo.mk (by kernel_rfl)) only [go_sem, seval]
            try exact LesV.refl _
          · simp (maxSteps := 3000000) (disch := first | exact trivial | assumption | omega | exact RegOk.mk (by decide +kernel) | exact RegCl.mk (by decide +kernel) | exact RegNo.mk (by kernel_rfl)) only [go_sem, seval]
          try simp (maxSteps := 3000000) (disch := first | exact trivial | assumption | omega | exact RegOk.mk (by decide +kernel) | exact RegCl.mk (by decide +kernel) | exact RegNo.mk (by kernel_rfl)) only [go_sem, seval]
          refine callG [1, 0] c2 rfl (by simp (maxSteps := 3000000) (disch := first | exact trivial | assumption | omega | exact RegOk.mk (by decide +kernel) | exact RegCl.mk (by decide +kernel) | exact RegNo.mk (by kernel_rfl)) only [go_sem, seval]) ?_ ?_ ?_
          · simp (maxSteps := 3000000) (disch := first | exact trivial | assumption | omega | exact RegOk.mk (by decide +kernel) | exact RegCl.mk (by decide +kernel) | exact RegNo.mk (by kernel_rfl)) only [go_sem, seval]
            try exact LesV.refl _
          · simp (maxSteps := 3000000) (disch := first | exact trivial | assumption | omega | exact RegOk.mk (by decide +kernel) | exact RegCl.mk (by decide +kernel) | exact RegNo.mk (by kernel_rfl)) only [go_sem, seval]
          try simp (maxSteps := 3000000) (disch := first | exact trivial | assumption | omega | exact RegOk.mk (by decide +kernel) | exact RegCl.mk (by decide +kernel) | exact RegNo.mk (by kernel_rfl)) only [go_sem, seval]
          refine ⟨(k + 1, v2, N2, 0, f2), ⟨by show k + 1 ≤ _; omega, t1, by show 0 ≤ k + 1 + 1; omega, t3⟩, by show acts.length - (k + 1) < acts.length - k; omega, ?_, ?_⟩
          · simp (maxSteps := 3000000) (disch := first | exact trivial | assumption | omega | exact RegOk.mk (by decide +kernel) | exact RegCl.mk (by decide +kernel) | exact RegNo.mk (by kernel_rfl)) only [go_sem, seval]
            try exact LeV_int (by omega)
            try exact ⟨LeV_int (by omega), LeV_int (by omega)⟩
          · simp (maxSteps := 3000000) (disch := first | exact trivial | assumption | omega | exact RegOk.mk (by decide +kernel) | exact RegCl.mk (by decide +kernel) | exact RegNo.mk (by kernel_rfl)) only [go_sem, seval]
            try exact fun _ _ => trivial
            try exact fun _ _ => Le.refl _
        · obtain ⟨p, hp, z, z1, z2, z3⟩ := p3 n (by omega)
          have zl := z3.2.1
          have zr := z3.1
          have zs := bK_small (d := z) (by omega)
          have zq : ∀ q ∈ p.1, qb 40000000 q.1 ∧ qb 40000000 q.2 := fun q hq => ⟨(z3.2.2 q hq).1.mono (by omega), (z3.2.2 q hq).2.mono (by omega)⟩
          have zn : p.1 ≠ [] := fun e => by rw [e] at zl; simp at zl; omega
          by_cases hin : 0 ≤ a ∧ a < m
          · obtain ⟨i, rfl⟩ := Int.eq_ofNat_of_zero_le hin.1
            by_cases hd : dn ≤ z
            · have c0 := cov_Split_deep v N (dn : Int) (n := n) f (by omega) (by omega) hp zq (by omega) (i := i) zr (by omega) (by omega)
              unfold cvH at c0
              simp (maxSteps := 3000000) (disch := first | exact trivial | assumption | omega | exact RegOk.mk (by decide +kernel) | exact RegCl.mk (by decide +kernel) | exact RegNo.mk (by kernel_rfl)) only [go_sem, seval, ek, hak]
              refine callG [1, 0] c0 rfl (by simp (maxSteps := 3000000) (disch := first | exact trivial | assumption | omega | exact RegOk.mk (by decide +kernel) | exact RegCl.mk (by decide +kernel) | exact RegNo.mk (by kernel_rfl)) only [go_sem, seval]) ?_ ?_ ?_
              · simp (maxSteps := 3000000) (disch := first | exact trivial | assumption | omega | exact RegOk.mk (by decide +kernel) | exact RegCl.mk (by decide +kernel) | exact RegNo.mk (by kernel_rfl)) only [go_sem, seval]
                try exact LesV.refl _
              · simp (maxSteps := 3000000) (disch := first | exact trivial | assumption | omega | exact RegOk.mk (by decide +kernel) | exact RegCl.mk (by decide +kernel) | exact RegNo.mk (by kernel_rfl)) only [go_sem, seval]
              try simp (maxSteps := 3000000) (disch := first | exact trivial | assumption | omega | exact RegOk.mk (by decide +kernel) | exact RegCl.mk (by decide +kernel) | exact RegNo.mk (by kernel_rfl)) only [go_sem, seval]
              have hT : n + 1 ≤ N ∧ n + 1 ≤ k + 2 ∧ ∀ j, j < n + 1 → ∃ p, f j = plD p ∧ PlP m dn p := ⟨by omega, by omega, fun j hj => p3 j (by omega)⟩
              generalize v = v2, N = N2, f = f2 at *
              clear p1 p2 p3
              obtain ⟨t1, t2, t3⟩ := hT
              obtain ⟨p, hp2, z, z1, z2, z3⟩ := t3 (n) (by omega)
              have zl := z3.2.1
              have zn : p.1 ≠ [] := fun e => by rw [e] at zl; simp at zl; omega
              have c1 := cov_Top v2 N2 (dn : Int) f2 (n := n) (by omega) (by omega) hp2 zn (by omega)
              have c2 := cov_Left v2 N2 (dn : Int) (n := n + 1) f2 (by omega)
              unfold cvH at c1 c2
              rw [z1] at c1
              try simp (maxSteps := 3000000) (disch := first | exact trivial | assumption | omega | exact RegOk.mk (by decide +kernel) | exact RegCl.mk (by decide +kernel) | exact RegNo.mk (by kernel_rfl)) only [go_sem, seval]
              refine callG [1, 0] c1 rfl (by simp (maxSteps := 3000000) (disch := first | exact trivial | assumption | omega | exact RegOk.mk (by decide +kernel) | exact RegCl.mk (by decide +kernel) | exact RegNo.mk (by kernel_rfl)) only [go_sem, seval]) ?_ ?_ ?_
              · simp (maxSteps := 3000000) (disch := first | exact trivial | assumption | omega | exact RegOk.mk (by decide +kernel) | exact RegCl.mk (by decide +kernel) | exact RegNo.mk (by kernel_rfl)) only [go_sem, seval]
                try exact LesV.refl _
              · simp (maxSteps := 3000000) (disch := first | exact trivial | assumption | omega | exact RegOk.mk (by decide +kernel) | exact RegCl.mk (by decide +kernel) | exact RegNo.mk (by kernel_rfl)) only [go_sem, seval]
              try simp (maxSteps := 3000000) (disch := first | exact trivial | assumption | omega | exact RegOk.mk (by decide +kernel) | exact RegCl.mk (by decide +kernel) | exact RegNo.mk (by kernel_rfl)) only [go_sem, seval]
              refine callG [1, 0] c2 rfl (by simp (maxSteps := 3000000) (disch := first | exact trivial | assumption | omega | exact RegOk.mk (by decide +kernel) | exact RegCl.mk (by decide +kernel) | exact RegNo.mk (by kernel_rfl)) only [go_sem, seval]) ?_ ?_ ?_
              · simp (maxSteps := 3000000) (disch := first | exact trivial | assumption | omega | exact RegOk.mk (by decide +kernel) | exact RegCl.mk (by decide +kernel) | exact RegNo.mk (by kernel_rfl)) only [go_sem, seval]
                try exact LesV.refl _
              · simp (maxSteps := 3000000) (disch := first | exact trivial | assumption | omega | exact RegOk.mk (by decide +kernel) | exact RegCl.mk (by decide +kernel) | exact RegNo.mk (by kernel_rfl)) only [go_sem, seval]
              try simp (maxSteps := 3000000) (disch := first | exact trivial | assumption | omega | exact RegOk.mk (by decide +kernel) | exact RegCl.mk (by decide +kernel) | exact RegNo.mk (by kernel_rfl)) only [go_sem, seval]
              refine ⟨(k + 1, v2, N2, n + 1, f2), ⟨by show k + 1 ≤ _; omega, t1, by show n + 1 ≤ k + 1 + 1; omega, t3⟩, by show acts.length - (k + 1) < acts.length - k; omega, ?_, ?_⟩
              · simp (maxSteps := 3000000) (disch := first | exact trivial | assumption | omega | exact RegOk.mk (by decide +kernel) | exact RegCl.mk (by decide +kernel) | exact RegNo.mk (by kernel_rfl)) only [go_sem, seval]
                try exact LeV_int (by omega)
                try exact ⟨LeV_int (by omega), LeV_int (by omega)⟩
              · simp (maxSteps := 3000000) (disch := first | exact trivial | assumption | omega | exact RegOk.mk (by decide +kernel) | exact RegCl.mk (by decide +kernel) | exact RegNo.mk (by kernel_rfl)) only [go_sem, seval]
                try exact fun _ _ => trivial
                try exact fun _ _ => Le.refl _
            · have c0 := cov_Split v N (dn : Int) (n := n) f (by omega) (by omega) hp zq (by omega) (i := i) zr (by omega) (by omega) (by omega) (by omega)
              obtain ⟨s1, s2⟩ := z3.split (i := i) (by omega)
              have hT : n + 2 ≤ n + 2 ∧ n + 2 ≤ k + 2 ∧ ∀ j, j < n + 2 → ∃ q, (fun j => if j < n then f j else if j = n then plD (splitH p.1 i, p.2 + 1) else plD (splitL p.1 i, p.2 + 1)) j = plD q ∧ PlP m dn q := ⟨Nat.le_refl _, by omega, fun j hj => by
                show ∃ q, (if j < n then f j else if j = n then plD (splitH p.1 i, p.2 + 1) else plD (splitL p.1 i, p.2 + 1)) = plD q ∧ PlP m dn q
                by_cases h1 : j < n
                · rw [if_pos h1]; exact p3 j (by omega)
                · rw [if_neg h1]
                  by_cases h2 : j = n
                  · rw [if_pos h2]; exact ⟨_, rfl, z + 1, by show p.2 + 1 = _; omega, by omega, s2⟩
                  · rw [if_neg h2]; exact ⟨_, rfl, z + 1, by show p.2 + 1 = _; omega, by omega, s1⟩⟩
              generalize (fun j => if j < n then f j else if j = n then plD (splitH p.1 i, p.2 + 1) else plD (splitL p.1 i, p.2 + 1)) = f2 at *
              generalize hv2 : v + 1 = v2 at *
              unfold cvH at c0
              simp (maxSteps := 3000000) (disch := first | exact trivial | assumption | omega | exact RegOk.mk (by decide +kernel) | exact RegCl.mk (by decide +kernel) | exact RegNo.mk (by kernel_rfl)) only [go_sem, seval, ek, hak]
              refine callG [1, 0] c0 rfl (by simp (maxSteps := 3000000) (disch := first | exact trivial | assumption | omega | exact RegOk.mk (by decide +kernel) | exact RegCl.mk (by decide +kernel) | exact RegNo.mk (by kernel_rfl)) only [go_sem, seval]) ?_ ?_ ?_
              · simp (maxSteps := 3000000) (disch := first | exact trivial | assumption | omega | exact RegOk.mk (by decide +kernel) | exact RegCl.mk (by decide +kernel) | exact RegNo.mk (by kernel_rfl)) only [go_sem, seval]
                try exact LesV.refl _
              · simp (maxSteps := 3000000) (disch := first | exact trivial | assumption | omega | exact RegOk.mk (by decide +kernel) | exact RegCl.mk (by decide +kernel) | exact RegNo.mk (by kernel_rfl)) only [go_sem, seval]
              try simp (maxSteps := 3000000) (disch := first | exact trivial | assumption | omega | exact RegOk.mk (by decide +kernel) | exact RegCl.mk (by decide +kernel) | exact RegNo.mk (by kernel_rfl)) only [go_sem, seval]
              try rw [hv2]
              have e3 : (((n + 1 : Nat) : Int) + 1) = ((n + 2 : Nat) : Int) := by omega
              try rw [e3]
              clear p1 p2 p3
              obtain ⟨t1, t2, t3⟩ := hT
              obtain ⟨p, hp2, z, z1, z2, z3⟩ := t3 (n + 1) (by omega)
              have zl := z3.2.1
              have zn : p.1 ≠ [] := fun e => by rw [e] at zl; simp at zl; omega
              have c1 := cov_Top v2 (n + 2) (dn : Int) f2 (n := n + 1) (by omega) (by omega) hp2 zn (by omega)
              have c2 := cov_Left v2 (n + 2) (dn : Int) (n := n + 1 + 1) f2 (by omega)
              unfold cvH at c1 c2
              rw [z1] at c1
              try simp (maxSteps := 3000000) (disch := first | exact trivial | assumption | omega | exact RegOk.mk (by decide +kernel) | exact RegCl.mk (by decide +kernel) | exact RegNo.mk (by kernel_rfl)) only [go_sem, seval]
              refine callG [1, 0] c1 rfl (by simp (maxSteps := 3000000) (disch := first | exact trivial | assumption | omega | exact RegOk.mk (by decide +kernel) | exact RegCl.mk (by decide +kernel) | exact RegNo.mk (by kernel_rfl)) only [go_sem, seval]) ?_ ?_ ?_
              · simp (maxSteps := 3000000) (disch := first | exact trivial | assumption | omega | exact RegOk.mk (by decide +kernel) | exact RegCl.mk (by decide +kernel) | exact RegNo.mk (by kernel_rfl)) only [go_sem, seval]
                try exact LesV.refl _
              · simp (maxSteps := 3000000) (disch := first | exact trivial | assumption | omega | exact RegOk.mk (by decide +kernel) | exact RegCl.mk (by decide +kernel) | exact RegNo.mk (by kernel_rfl)) only [go_sem, seval]
              try simp (maxSteps := 3000000) (disch := first | exact trivial | assumption | omega | exact RegOk.mk (by decide +kernel) | exact RegCl.mk (by decide +kernel) | exact RegNo.mk (by kernel_rfl)) only [go_sem, seval]
              refine callG [1, 0] c2 rfl (by simp (maxSteps := 3000000) (disch := first | exact trivial | assumption | omega | exact RegOk.mk (by decide +kernel) | exact RegCl.mk (by decide +kernel) | exact RegNo.mk (by kernel_rfl)) only [go_sem, seval]) ?_ ?_ ?_
              · simp (maxSteps := 3000000) (disch := first | exact trivial | assumption | omega | exact RegOk.mk (by decide +kernel) | exact RegCl.mk (by decide +kernel) | exact RegNo.mk (by kernel_rfl)) only [go_sem, seval]
                try exact LesV.refl _
              · simp (maxSteps := 3000000) (disch := first | exact trivial | assumption | omega | exact RegOk.mk (by decide +kernel) | exact RegCl.mk (by decide +kernel) | exact RegNo.mk (by kernel_rfl)) only [go_sem, seval]
              try simp (maxSteps := 3000000) (disch := first | exact trivial | assumption | omega | exact RegOk.mk (by decide +kernel) | exact RegCl.mk (by decide +kernel) | exact RegNo.mk (by kernel_rfl)) only [go_sem, seval]
              refine ⟨(k + 1, v2, (n + 2), n + 1 + 1, f2), ⟨by show k + 1 ≤ _; omega, t1, by show n + 1 + 1 ≤ k + 1 + 1; omega, t3⟩, by show acts.length - (k + 1) < acts.length - k; omega, ?_, ?_⟩
              · simp (maxSteps := 3000000) (disch := first | exact trivial | assumption | omega | exact RegOk.mk (by decide +kernel) | exact RegCl.mk (by decide +kernel) | exact RegNo.mk (by kernel_rfl)) only [go_sem, seval]
                try exact LeV_int (by omega)
                try exact ⟨LeV_int (by omega), LeV_int (by omega)⟩
              · simp (maxSteps := 3000000) (disch := first | exact trivial | assumption | omega | exact RegOk.mk (by decide +kernel) | exact RegCl.mk (by decide +kernel) | exact RegNo.mk (by kernel_rfl)) only [go_sem, seval]
                try exact fun _ _ => trivial
                try exact fun _ _ => Le.refl _
          · have c0 := cov_Split_arg v N (dn : Int) (n := n) f (by omega) (by omega) hp (fun q hq => ⟨(zq q hq).1.qs (by omega), (zq q hq).2.qs (by omega)⟩) zn (by omega) (i := a) (fun h => hin ⟨h.2.1, by have := h.2.2; omega⟩)
            unfold cvH at c0
            simp (maxSteps := 3000000) (disch := first | exact trivial | assumption | omega | exact RegOk.mk (by decide +kernel) | exact RegCl.mk (by decide +kernel) | exact RegNo.mk (by kernel_rfl)) only [go_sem, seval, ek, hak]
            refine callG [1, 0] c0 rfl (by simp (maxSteps := 3000000) (disch := first | exact trivial | assumption | omega | exact RegOk.mk (by decide +kernel) | exact RegCl.mk (by decide +kernel) | exact RegNo.mk (by kernel_rfl)) only [go_sem, seval]) ?_ ?_ ?_
            · simp (maxSteps := 3000000) (disch := first | exact trivial | assumption | omega | exact RegOk.mk (by decide +kernel) | exact RegCl.mk (by decide +kernel) | exact RegNo.mk (by kernel_rfl)) only [go_sem, seval]
              try exact LesV.refl _
            · simp (maxSteps := 3000000) (disch := first | exact trivial | assumption | omega | exact RegOk.mk (by decide +kernel) | exact RegCl.mk (by decide +kernel) | exact RegNo.mk (by kernel_rfl)) only [go_sem, seval]
            try simp (maxSteps := 3000000) (disch := first | exact trivial | assumption | omega | exact RegOk.mk (by decide +kernel) | exact RegCl.mk (by decide +kernel) | exact RegNo.mk (by kernel_rfl)) only [go_sem, seval]
            have hT : n + 1 ≤ N ∧ n + 1 ≤ k + 2 ∧ ∀ j, j < n + 1 → ∃ p, f j = plD p ∧ PlP m dn p := ⟨by omega, by omega, fun j hj => p3 j (by omega)⟩
            generalize v = v2, N = N2, f = f2 at *
            clear p1 p2 p3
            obtain ⟨t1, t2, t3⟩ := hT
            obtain ⟨p, hp2, z, z1, z2, z3⟩ := t3 (n) (by omega)
            have zl := z3.2.1
            have zn : p.1 ≠ [] := fun e => by rw [e] at zl; simp at zl; omega
            have c1 := cov_Top v2 N2 (dn : Int) f2 (n := n) (by omega) (by omega) hp2 zn (by omega)
            have c2 := cov_Left v2 N2 (dn : Int) (n := n + 1) f2 (by omega)
            unfold cvH at c1 c2
            rw [z1] at c1
            try simp (maxSteps := 3000000) (disch := first | exact trivial | assumption | omega | exact RegOk.mk (by decide +kernel) | exact RegCl.mk (by decide +kernel) | exact RegNo.mk (by kernel_rfl)) only [go_sem, seval]
            refine callG [1, 0] c1 rfl (by simp (maxSteps := 3000000) (disch := first | exact trivial | assumption | omega | exact RegOk.mk (by decide +kernel) | exact RegCl.mk (by decide +kernel) | exact RegNo.mk (by kernel_rfl)) only [go_sem, seval]) ?_ ?_ ?_
            · simp (maxSteps := 3000000) (disch := first | exact trivial | assumption | omega | exact RegOk.mk (by decide +kernel) | exact RegCl.mk (by decide +kernel) | exact RegNo.mk (by kernel_rfl)) only [go_sem, seval]
              try exact LesV.refl _
            · simp (maxSteps := 3000000) (disch := first | exact trivial | assumption | omega | exact RegOk.mk (by decide +kernel) | exact RegCl.mk (by decide +kernel) | exact RegNo.mk (by kernel_rfl)) only [go_sem, seval]
            try simp (maxSteps := 3000000) (disch := first | exact trivial | assumption | omega | exact RegOk.mk (by decide +kernel) | exact RegCl.mk (by decide +kernel) | exact RegNo.mk (by kernel_rfl)) only [go_sem, seval]
            refine callG [1, 0] c2 rfl (by simp (maxSteps := 3000000) (disch := first | exact trivial | assumption | omega | exact RegOk.mk (by decide +kernel) | exact RegCl.mk (by decide +kernel) | exact RegNo.mk (by kernel_rfl)) only [go_sem, seval]) ?_ ?_ ?_
            · simp (maxSteps := 3000000) (disch := first | exact trivial | assumption | omega | exact RegOk.mk (by decide +kernel) | exact RegCl.mk (by decide +kernel) | exact RegNo.mk (by kernel_rfl)) only [go_sem, seval]
              try exact LesV.refl _
            · simp (maxSteps := 3000000) (disch := first | exact trivial | assumption | omega | exact RegOk.mk (by decide +kernel) | exact RegCl.mk (by decide +kernel) | exact RegNo.mk (by kernel_rfl)) only [go_sem, seval]
            try simp (maxSteps := 3000000) (disch := first | exact trivial | assumption | omega | exact RegOk.mk (by decide +kernel) | exact RegCl.mk (by decide +kernel) | exact RegNo.mk (by kernel_rfl)) only [go_sem, seval]
            refine ⟨(k + 1, v2, N2, n + 1, f2), ⟨by show k + 1 ≤ _; omega, t1, by show n + 1 ≤ k + 1 + 1; omega, t3⟩, by show acts.length - (k + 1) < acts.length - k; omega, ?_, ?_⟩
            · simp (maxSteps := 3000000) (disch := first | exact trivial | assumption | omega | exact RegOk.mk (by decide +kernel) | exact RegCl.mk (by decide +kernel) | exact RegNo.mk (by kernel_rfl)) only [go_sem, seval]
              try exact LeV_int (by omega)
              try exact ⟨LeV_int (by omega), LeV_int (by omega)⟩
            · simp (maxSteps := 3000000) (disch := first | exact trivial | assumption | omega | exact RegOk.mk (by decide +kernel) | exact RegCl.mk (by decide +kernel) | exact RegNo.mk (by kernel_rfl)) only [go_sem, seval]
              try exact fun _ _ => trivial
              try exact fun _ _ => Le.refl _
end Go.Proofs.YtmcinfbckdiaoaaGreatDoor.Lv
