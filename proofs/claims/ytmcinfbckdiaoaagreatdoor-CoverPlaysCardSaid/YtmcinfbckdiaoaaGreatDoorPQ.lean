/- The program's numbers: guess. -/
import Derived.Test.YtmcinfbckdiaoaaGreatDoorPP
set_option linter.unusedVariables false
set_option linter.unusedSimpArgs false
set_option maxRecDepth 100000
set_option maxHeartbeats 4000000
namespace Go.Proofs.YtmcinfbckdiaoaaGreatDoor.Lv
open Go Go.RowKit
theorem GsP.small {V W P v1 v2 U x : Nat} (G : Gue V W P v1 v2 U x) {k g r : Nat} (h : GsP V W v1 v2 U x (k, g, r)) : g < 4294967298 ∧ r < 36893488147419103232 := by
  have ht := G.top
  have hb := G.big
  have h1 : g * v1 + r = U := h.1
  have l1 := G.l1
  have hlt : g * v1 < 4294967298 * v1 := by omega
  exact ⟨Nat.lt_of_mul_lt_mul_right hlt, by omega⟩
theorem gs_mul {g y : Nat} (hg : g < 4294967296) (hy : y < 4294967296) : IntKind.u64.wrap ((g : Int) * (y : Int)) = ((g * y : Nat) : Int) := by
  have h1 : g * y ≤ 4294967295 * 4294967295 := Nat.mul_le_mul (by omega) (by omega)
  rw [← Int.natCast_mul]
  generalize g * y = p at *
  exact wrap_u64 (by omega)
theorem nat_guess {p w q m : List Nat} {N k P : Nat} (lm : m.length = k + 2) (lw : w.length = k + 3) (hw : lows w) (hm : lows m) (hN : N = p.length + (k + 3) + q.length) (hb : N < 1073741824) (ver : Nat)
    (G : Gue (val m) (val w) P (m.getD (k + 1) 0) (m.getD k 0) (w.getD (k + 2) 0 * 4294967296 + w.getD (k + 1) 0) (w.getD k 0)) :
    CG E 165 [.sl 0 ver p.length (k + 3), u32s m] [(0, .row false ver false 1 N (lR (p ++ w ++ q)))]
      (.int .u64 ((gss (m.getD (k + 1) 0) (m.getD k 0) (w.getD (k + 2) 0 * 4294967296 + w.getD (k + 1) 0) (w.getD k 0) : Nat) : Int))
      [(0, .row false ver false 1 N (lR (p ++ w ++ q)))] := by
  refine CG_intro Tryz.func165 rfl (by kernel_rfl) rfl (by kernel_rfl) (by kernel_rfl) rfl ?_
  have g0 := hw.getD k
  have g1 := hw.getD (k + 1)
  have g2 := hw.getD (k + 2)
  have y0 := hm.getD k
  have y1 := hm.getD (k + 1)
  have hU := or_up _ _ g2 g1
  have q0 : lR (p ++ w ++ q) (p.length + k) = .int .u32 ((w.getD k 0 : Nat) : Int) := by rw [lR, win_get (by omega)]
  have q1 : lR (p ++ w ++ q) (p.length + (k + 1)) = .int .u32 ((w.getD (k + 1) 0 : Nat) : Int) := by rw [lR, win_get (by omega)]
  have q2 : lR (p ++ w ++ q) (p.length + (k + 2)) = .int .u32 ((w.getD (k + 2) 0 : Nat) : Int) := by rw [lR, win_get (by omega)]
  generalize hA0 : w.getD k 0 = a0 at *
  generalize hA1 : w.getD (k + 1) 0 = a1 at *
  generalize hA2 : w.getD (k + 2) 0 = a2 at *
  generalize hB0 : m.getD k 0 = b0 at *
  generalize hB1 : m.getD (k + 1) 0 = b1 at *
  generalize hR : lR (p ++ w ++ q) = R at *
  have hbig := G.big
  have hz := GsP.zero G
  have i1 : (((k + 2 : Nat) : Int) - 1).toNat = k + 1 := by omega
  have i2 : (((k + 2 : Nat) : Int) - 2).toNat = k := by omega
  have i0 : ((k + 2 : Nat) : Int).toNat = k + 2 := by omega
  have htd : ∀ U : Nat, ((U : Nat) : Int).tdiv (b1 : Int) = ((U / b1 : Nat) : Int) := fun U => (Int.ofNat_tdiv _ _).symm
  have htm : ∀ U : Nat, ((U : Nat) : Int).tmod (b1 : Int) = ((U % b1 : Nat) : Int) := fun U => (Int.ofNat_tmod _ _).symm
  have hU2 : a2 * 4294967296 + a1 < 18446744073709551616 := by omega
  have hgss : gss b1 b0 (a2 * 4294967296 + a1) a0 = gsG b1 b0 a0 2 ((a2 * 4294967296 + a1) / b1) ((a2 * 4294967296 + a1) % b1) := rfl
  rw [hgss]
  generalize a2 * 4294967296 + a1 = U at *
  have hd1 : U / b1 ≤ U := Nat.div_le_self _ _
  have hd2 : U % b1 ≤ U := Nat.mod_le _ _
  have hwd : IntKind.u64.wrap ((U / b1 : Nat) : Int) = ((U / b1 : Nat) : Int) := by
    generalize U / b1 = z at *
    exact wrap_u64 (by omega)
  simp (maxSteps := 3000000) (disch := first | exact trivial | assumption | omega | exact rOk | exact rCl | exact rNo) only [go_sem, seval, u32s, lm, i0, i1, i2, q0, q1, q2, hB0, hB1, hU, htd, htm, hwd]
  refine AL.of (fun s : Nat × Nat × Nat => GsP (val m) (val w) b1 b0 U a0 s ∧ gsG b1 b0 a0 s.1 s.2.1 s.2.2 = gsG b1 b0 a0 2 (U / b1) (U % b1)) (fun s => s.1) (fun s => [(0, .sl 0 ver p.length (k + 3)), (1, u32s m), (5, .int .i64 ((k + 2 : Nat) : Int)), (7, .int .u64 b1), (8, .int .u64 s.2.1), (9, .int .u64 s.2.2)])
    (fun _ => [(0, .row false ver false 1 N R)]) (2, U / b1, U % b1) ⟨hz, rfl⟩ ?_ ?_ ?_ ?_
  · simp (maxSteps := 3000000) (disch := first | exact trivial | assumption | omega | exact rOk | exact rCl | exact rNo) only [go_sem, seval, u32s, lm]
  · simp (maxSteps := 3000000) (disch := first | exact trivial | assumption | omega | exact rOk | exact rCl | exact rNo) only [go_sem, seval, u32s]
    try exact fun _ _ => trivial
  · intro x _; simp (maxSteps := 3000000) (disch := first | exact trivial | assumption | omega | exact rOk | exact rCl | exact rNo) only [go_sem, seval]
  rintro ⟨j, g, r⟩ ⟨hP, hE⟩
  simp only at hE
  obtain ⟨sg, sr⟩ := hP.small G
  have step : (r < 4294967296 ∧ (4294967296 ≤ g ∨ r * 4294967296 + a0 < g * b0)) → ∃ j', j = j' + 1 ∧ 0 < g ∧ GsP (val m) (val w) b1 b0 U a0 (j', g - 1, r + b1) ∧ gsG b1 b0 a0 j' (g - 1) (r + b1) = gsG b1 b0 a0 2 (U / b1) (U % b1) := fun hc => by
    obtain ⟨j', e, e1, e2⟩ := hP.next G hc
    subst e
    rw [gsG_t hc] at hE
    exact ⟨j', rfl, e1, e2, hE⟩
  have stop : ¬ (r < 4294967296 ∧ (4294967296 ≤ g ∨ r * 4294967296 + a0 < g * b0)) → gsG b1 b0 a0 2 (U / b1) (U % b1) = g := fun hc => by rw [← hE, gsG_f hc]
  clear hP hE hz hgss hd1 hd2 hR
  by_cases hr : r < 4294967296
  · by_cases hg : g < 4294967296
    · have hmul := gs_mul hg y0
      have hx := or_up _ _ hr g0
      by_cases hc : r * 4294967296 + a0 < g * b0
      · obtain ⟨j', rfl, e1, e2, e3⟩ := step ⟨hr, .inr hc⟩
        have hdc : decide (((g * b0 : Nat) : Int) > ((r * 4294967296 + a0 : Nat) : Int)) = true := decide_eq_true (Int.ofNat_lt.2 hc)
        have hw1 : IntKind.u64.wrap ((g : Int) - 1) = ((g - 1 : Nat) : Int) := by rw [wrap_u64 (by omega)]; omega
        have hw2 : IntKind.u64.wrap ((r : Int) + (b1 : Int)) = ((r + b1 : Nat) : Int) := by rw [wrap_u64 (by omega)]; omega
        clear step stop hc
        simp (maxSteps := 3000000) (disch := first | exact trivial | assumption | omega | exact rOk | exact rCl | exact rNo) only [go_sem, seval, u32s, i2, q0, hB0, hmul, hx, hdc, hw1, hw2]
        refine ⟨(j', g - 1, r + b1), ⟨e2, e3⟩, Nat.lt_succ_self _, ?_, ?_⟩
        · simp (maxSteps := 3000000) (disch := first | exact trivial | assumption | omega | exact rOk | exact rCl | exact rNo) only [go_sem, seval, u32s]
        · simp (maxSteps := 3000000) (disch := first | exact trivial | assumption | omega | exact rOk | exact rCl | exact rNo) only [go_sem, seval, u32s]
          try exact fun _ _ => trivial
      · have e := stop fun h => h.2.elim (fun h => by omega) hc
        rw [e]
        have hdc : decide (((g * b0 : Nat) : Int) > ((r * 4294967296 + a0 : Nat) : Int)) = false := decide_eq_false fun h => hc (Int.ofNat_lt.1 h)
        clear step stop hc e
        simp (maxSteps := 3000000) (disch := first | exact trivial | assumption | omega | exact rOk | exact rCl | exact rNo) only [go_sem, seval, u32s, i2, q0, hB0, hmul, hx, hdc]
        try exact fun _ _ => trivial
    · obtain ⟨j', rfl, e1, e2, e3⟩ := step ⟨hr, .inl (by omega)⟩
      have hw1 : IntKind.u64.wrap ((g : Int) - 1) = ((g - 1 : Nat) : Int) := by rw [wrap_u64 (by omega)]; omega
      have hw2 : IntKind.u64.wrap ((r : Int) + (b1 : Int)) = ((r + b1 : Nat) : Int) := by rw [wrap_u64 (by omega)]; omega
      clear step stop
      simp (maxSteps := 3000000) (disch := first | exact trivial | assumption | omega | exact rOk | exact rCl | exact rNo) only [go_sem, seval, u32s, i2, q0, hB0, hw1, hw2]
      refine ⟨(j', g - 1, r + b1), ⟨e2, e3⟩, Nat.lt_succ_self _, ?_, ?_⟩
      · simp (maxSteps := 3000000) (disch := first | exact trivial | assumption | omega | exact rOk | exact rCl | exact rNo) only [go_sem, seval, u32s]
      · simp (maxSteps := 3000000) (disch := first | exact trivial | assumption | omega | exact rOk | exact rCl | exact rNo) only [go_sem, seval, u32s]
        try exact fun _ _ => trivial
  · have e := stop fun h => hr h.1
    rw [e]
    clear step stop e
    simp (maxSteps := 3000000) (disch := first | exact trivial | assumption | omega | exact rOk | exact rCl | exact rNo) only [go_sem, seval, u32s]
    try exact fun _ _ => trivial
end Go.Proofs.YtmcinfbckdiaoaaGreatDoor.Lv
