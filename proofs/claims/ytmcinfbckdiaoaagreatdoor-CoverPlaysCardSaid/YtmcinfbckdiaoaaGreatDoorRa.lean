/- The document's numbers: trim, NatOf, CmpNat, AddNat, SubNat. The document's numbers: SubNat, Shl, Bits. The document's numbers: DivNat, Gcd, Bit, Zeros. The document's numbers: MulNat; whole numbers. -/
import Derived.Test.YtmcinfbckdiaoaaGreatDoorMb
import Derived.Test.YtmcinfbckdiaoaaGreatDoorPP
import Derived.Test.YtmcinfbckdiaoaaGreatDoorPS
import Derived.Test.YtmcinfbckdiaoaaGreatDoorPT
import Derived.Test.YtmcinfbckdiaoaaGreatDoorPU
set_option linter.unusedVariables false
set_option linter.unusedSimpArgs false
set_option maxRecDepth 100000
set_option maxHeartbeats 4000000
namespace Go.Proofs.YtmcinfbckdiaoaaGreatDoor.Lv
open Go Go.RowKit
/-- A number of the document's. -/
def nD (n : Nat) : D := u32s (limbs n)
section
variable (n : Nat) (h : Hp) (ρ : Nat → Option Nat) (r : Nat → Nat)
theorem cl_nD : cl (nD n) = true := Eq.trans rfl rfl
theorem flat_nD : flat (nD n) = false := Eq.trans rfl rfl
theorem imp_nD : imp ρ h (nD n) = nD n := Eq.trans rfl rfl
theorem refs_nD : refs ρ (nD n) = [] := Eq.trans rfl rfl
theorem one_nD : one h (nD n) = true := Eq.trans rfl rfl
theorem ex_nD : exD r (nD n) = nD n := Eq.trans rfl rfl
end
attribute [go_sem] cl_nD flat_nD imp_nD refs_nD one_nD ex_nD
theorem ref_trim {l : List Nat} (hl : lows l) (hn : l.length < 4611686018427387904) : C E 153 [u32s l] (nD (val l)) := by
  refine CG_intro Tryz.func153 rfl (by kernel_rfl) rfl (by kernel_rfl) (by kernel_rfl) rfl ?_
  simp (maxSteps := 3000000) (disch := first | exact trivial | assumption | omega | exact rOk | exact rCl | exact rNo) only [go_sem, seval, u32s]
  refine AL.of (fun k : Nat => k ≤ l.length ∧ val (l.take k) = val l) (fun k => k) (fun k => [(0, u32s l), (3, .int .i64 k)]) (fun _ => []) l.length ⟨by omega, by simp⟩ ?_ ?_ ?_ ?_
  · simp (maxSteps := 3000000) (disch := first | exact trivial | assumption | omega | exact rOk | exact rCl | exact rNo) only [go_sem, seval, u32s]
  · simp (maxSteps := 3000000) (disch := first | exact trivial | assumption | omega | exact rOk | exact rCl | exact rNo) only [go_sem, seval]
  · intro x _; simp (maxSteps := 3000000) (disch := first | exact trivial | assumption | omega | exact rOk | exact rCl | exact rNo) only [go_sem, seval]
  rintro k ⟨h1, h2⟩
  have e0 : ((k : Nat) : Int).toNat = k := by omega
  have fin : (∀ j, j + 1 = k → l.getD j 0 ≠ 0) → LeV (.ro false 1 k fun i => .int .u32 ((l.getD i 0 : Nat) : Int)) (nD (val l)) := fun h3 => by
    have e := cut_fin hl h1 h2 h3
    rw [nD, u32s_lR, e]
    refine LeV.ro (by rw [List.length_take]; omega) fun i hi => Le.of_eq ?_
    rw [lR, getD_take hi]
  by_cases hk : 0 < k
  · obtain ⟨j, rfl⟩ : ∃ j, k = j + 1 := ⟨k - 1, by omega⟩
    have ej : (((j + 1 : Nat) : Int) - 1).toNat = j := by omega
    by_cases h0 : l.getD j 0 = 0
    · simp (maxSteps := 3000000) (disch := first | exact trivial | assumption | omega | exact rOk | exact rCl | exact rNo) only [go_sem, seval, ej, u32s]
      refine ⟨j, ⟨by omega, by rw [← val_take (by omega) h0]; exact h2⟩, Nat.lt_succ_self j, ?_, ?_⟩
      · simp (maxSteps := 3000000) (disch := first | exact trivial | assumption | omega | exact rOk | exact rCl | exact rNo) only [go_sem, seval, u32s]
        try exact LeV_int (by omega)
      · simp (maxSteps := 3000000) (disch := first | exact trivial | assumption | omega | exact rOk | exact rCl | exact rNo) only [go_sem, seval]
    · have hf := fin fun j' hj' => by
        obtain rfl : j' = j := by omega
        exact h0
      simp (maxSteps := 3000000) (disch := first | exact trivial | assumption | omega | exact rOk | exact rCl | exact rNo) only [go_sem, seval, ej, e0, u32s]
      try exact hf
  · obtain rfl : k = 0 := by omega
    have hf := fin fun j hj => by omega
    simp (maxSteps := 3000000) (disch := first | exact trivial | assumption | omega | exact rOk | exact rCl | exact rNo) only [go_sem, seval, u32s]
    try exact hf
theorem ref_NatOf {v : Nat} (h : v < 18446744073709551616) : C E 112 [.int .u64 v] (nD v) := by
  refine CG_intro Tryz.func112 rfl (by kernel_rfl) rfl (by kernel_rfl) (by kernel_rfl) rfl ?_
  have e1 := bits_andM v h
  have e2 : IntKind.u32.wrap ((v : Int) / 4294967296) = ((v / 4294967296 : Nat) : Int) := by rw [wrap_u32']; omega
  have e3 : IntKind.u32.wrap ((v % 4294967296 : Nat) : Int) = ((v % 4294967296 : Nat) : Int) := wrap_u32 (by omega)
  simp (maxSteps := 3000000) (disch := first | exact trivial | assumption | omega | exact rOk | exact rCl | exact rNo) only [go_sem, seval, e1, e2, e3]
  have hc := ref_trim (l := [v % 4294967296, v / 4294967296]) (by intro x hx; simp at hx; omega) (by simp)
  rw [show val [v % 4294967296, v / 4294967296] = v by simp only [val]; omega] at hc
  refine callC hc ?_ rfl ?_
  · simp (maxSteps := 3000000) (disch := first | exact trivial | assumption | omega | exact rOk | exact rCl | exact rNo) only [go_sem, seval, u32s]
    refine LesV_rows rfl fun i hi => ?_
    rcases i with _ | _ | i
    · rfl
    · rfl
    · omega
  simp (maxSteps := 3000000) (disch := first | exact trivial | assumption | omega | exact rOk | exact rCl | exact rNo) only [go_sem, seval]
theorem ref_CmpNat {a b : Nat} (ha : nb a < 1073741824) (hb : nb b < 1073741824) : C E 111 [nD a, nD b] (.int .i64 (sgI a b)) := by
  refine CG_intro Tryz.func111 rfl (by kernel_rfl) rfl (by kernel_rfl) (by kernel_rfl) rfl ?_
  unfold nb at ha hb
  have va := val_limbs a
  have vb := val_limbs b
  have la := limbs_low a
  have lb := limbs_low b
  have hc1 := @cmp_len a b
  have hc2 := @cmp_len b a
  simp only [nD]
  generalize limbs a = l at *
  generalize limbs b = m at *
  by_cases h1 : l.length < m.length
  · rw [sgI_lt (by have := hc1 h1; omega)]
    simp (maxSteps := 3000000) (disch := first | exact trivial | assumption | omega | exact rOk | exact rCl | exact rNo) only [go_sem, seval, u32s]
  by_cases h2 : m.length < l.length
  · rw [sgI_gt (by have := hc2 h2; omega)]
    simp (maxSteps := 3000000) (disch := first | exact trivial | assumption | omega | exact rOk | exact rCl | exact rNo) only [go_sem, seval, u32s]
  have he : l.length = m.length := by omega
  clear hc1 hc2
  subst va vb
  simp (maxSteps := 3000000) (disch := first | exact trivial | assumption | omega | exact rOk | exact rCl | exact rNo) only [go_sem, seval, u32s, he]
  refine AL.of (fun k : Nat => k ≤ m.length ∧ l.drop k = m.drop k) (fun k => k) (fun k => [(0, u32s l), (1, u32s m), (5, .int .i64 ((k : Int) - 1))]) (fun _ => []) m.length ⟨Nat.le_refl _, by rw [← he, List.drop_length, he, List.drop_length]⟩ ?_ ?_ ?_ ?_
  · simp (maxSteps := 3000000) (disch := first | exact trivial | assumption | omega | exact rOk | exact rCl | exact rNo) only [go_sem, seval, u32s, he]
  · simp (maxSteps := 3000000) (disch := first | exact trivial | assumption | omega | exact rOk | exact rCl | exact rNo) only [go_sem, seval]
  · intro x _; simp (maxSteps := 3000000) (disch := first | exact trivial | assumption | omega | exact rOk | exact rCl | exact rNo) only [go_sem, seval]
  rintro k ⟨hk, hd⟩
  rcases k with _ | k
  · rw [List.drop_zero, List.drop_zero] at hd
    subst hd
    rw [sgI_eq]
    simp (maxSteps := 3000000) (disch := first | exact trivial | assumption | omega | exact rOk | exact rCl | exact rNo) only [go_sem, seval]
  · have e1 : (((k + 1 : Nat) : Int) - 1).toNat = k := by omega
    have c1 := cmp_at (k := k) la lb he (by omega) hd
    have c2 := cmp_at (k := k) lb la he.symm (by omega) hd.symm
    by_cases hx : l.getD k 0 < m.getD k 0
    · rw [sgI_lt (by have := c1 hx; omega)]
      clear c1 c2 hd
      simp (maxSteps := 3000000) (disch := first | exact trivial | assumption | omega | exact rOk | exact rCl | exact rNo) only [go_sem, seval, u32s, e1, he]
    by_cases hy : m.getD k 0 < l.getD k 0
    · rw [sgI_gt (by have := c2 hy; omega)]
      clear c1 c2 hd
      simp (maxSteps := 3000000) (disch := first | exact trivial | assumption | omega | exact rOk | exact rCl | exact rNo) only [go_sem, seval, u32s, e1, he]
    have hxy : l.getD k 0 = m.getD k 0 := by omega
    have hd' : l.drop k = m.drop k := by rw [lim_drop (l := l) (by omega), lim_drop (l := m) (by omega), hd, hxy]
    clear c1 c2 hd
    simp (maxSteps := 3000000) (disch := first | exact trivial | assumption | omega | exact rOk | exact rCl | exact rNo) only [go_sem, seval, u32s, e1, he]
    refine ⟨k, ⟨by omega, hd'⟩, Nat.lt_succ_self k, ?_, ?_⟩
    · simp (maxSteps := 3000000) (disch := first | exact trivial | assumption | omega | exact rOk | exact rCl | exact rNo) only [go_sem, seval, u32s, he]
      try exact LeV_int (by omega)
    · simp (maxSteps := 3000000) (disch := first | exact trivial | assumption | omega | exact rOk | exact rCl | exact rNo) only [go_sem, seval]
/-- A sum under way. -/
def RsP (x y : List Nat) (n : Nat) (s : Nat × Nat × List Nat) : Prop := s.1 ≤ n ∧ s.2.1 ≤ 1 ∧ s.2.2.length = n ∧ lows s.2.2 ∧ val (s.2.2.take s.1) + 4294967296 ^ s.1 * s.2.1 = val (x.take s.1) + val (y.take s.1)
theorem RsP.next {x y : List Nat} (hx : lows x) (hy : lows y) {n i c : Nat} {w : List Nat} (h : RsP x y n (i, c, w)) (hi : i < n) :
    RsP x y n (i + 1, (c + x.getD i 0 + y.getD i 0) / 4294967296, w.set i ((c + x.getD i 0 + y.getD i 0) % 4294967296)) := by
  obtain ⟨h1, h2, h3, h4, h5⟩ := h
  simp only at h1 h2 h3 h4 h5
  have g1 := hx.getD i
  have g2 := hy.getD i
  have hstep := sum_step (w := w) (d := (c + x.getD i 0 + y.getD i 0) % 4294967296) (c' := (c + x.getD i 0 + y.getD i 0) / 4294967296) (by omega) h5 (by omega)
  clear h5
  have hc : (c + x.getD i 0 + y.getD i 0) / 4294967296 ≤ 1 := by omega
  exact ⟨hi, hc, by simp only [List.length_set]; exact h3, lows_set h4 (by omega), hstep⟩
theorem pow_dbl (M : Nat) : 4294967296 ^ M + 4294967296 ^ M ≤ 4294967296 ^ (M + 1) := by
  rw [Nat.pow_succ]
  generalize 4294967296 ^ M = p
  omega
theorem RsP.fin {x y : List Nat} (hx : lows x) (hy : lows y) {c : Nat} {w : List Nat} (h : RsP x y (max x.length y.length + 1) (max x.length y.length + 1, c, w)) : lows w ∧ val w = val x + val y := by
  obtain ⟨h1, h2, h3, h4, h5⟩ := h
  simp only at h1 h2 h3 h4 h5
  rw [List.take_of_length_le (by omega), List.take_of_length_le (by omega), List.take_of_length_le (by omega)] at h5
  have b1 := val_ltB hx
  have b2 := val_ltB hy
  have p1 : (4294967296 : Nat) ^ x.length ≤ 4294967296 ^ max x.length y.length := Nat.pow_le_pow_right (by omega) (Nat.le_max_left _ _)
  have p2 : (4294967296 : Nat) ^ y.length ≤ 4294967296 ^ max x.length y.length := Nat.pow_le_pow_right (by omega) (Nat.le_max_right _ _)
  have p3 := pow_dbl (max x.length y.length)
  refine ⟨h4, ?_⟩
  generalize 4294967296 ^ (max x.length y.length + 1) = q at *
  generalize 4294967296 ^ max x.length y.length = p at *
  rcases (show c = 0 ∨ c = 1 by omega) with rfl | rfl
  · rw [Nat.mul_zero] at h5; omega
  · rw [Nat.mul_one] at h5; omega
theorem ref_AddNat {a b : Nat} (ha : nb a < 536870912) (hb : nb b < 536870912) : C E 156 [nD a, nD b] (nD (a + b)) := by
  refine CG_intro Tryz.func156 rfl (by kernel_rfl) rfl (by kernel_rfl) (by kernel_rfl) rfl ?_
  unfold nb at ha hb
  have va := val_limbs a
  have vb := val_limbs b
  have la := limbs_low a
  have lb := limbs_low b
  simp only [nD]
  generalize limbs a = l at *
  generalize limbs b = m at *
  subst va vb
  have em : max (l.length : Int) (m.length : Int) = ((max l.length m.length : Nat) : Int) := by omega
  have hM1 := Nat.le_max_left l.length m.length
  have hM2 := Nat.le_max_right l.length m.length
  have hM3 : max l.length m.length < 536870912 := by omega
  have hP0 : RsP l m (max l.length m.length + 1) (0, 0, List.replicate (max l.length m.length + 1) 0) := ⟨by simp, by simp, by simp, lows_rep _, by simp [val]⟩
  have hfin : ∀ c w, RsP l m (max l.length m.length + 1) (max l.length m.length + 1, c, w) → lows w ∧ val w = val l + val m := fun c w h => h.fin la lb
  generalize max l.length m.length = M at *
  have e0 : ((M : Int) + 1).toNat = M + 1 := by omega
  simp (maxSteps := 3000000) (disch := first | exact trivial | assumption | omega | exact rOk | exact rCl | exact rNo) only [go_sem, seval, u32s, em, e0]
  refine ⟨by omega, by omega, by omega, ?_⟩
  refine AL.of (RsP l m (M + 1)) (fun s => M + 1 - s.1) (fun s => [(0, u32s l), (1, u32s m), (5, .sl 0 0 0 (M + 1)), (6, .int .u64 s.2.1), (7, .int .i64 s.1)]) (fun s => [(0, .row false 0 false 1 (M + 1) (lR s.2.2))]) (0, 0, List.replicate (M + 1) 0) hP0 ?_ ?_ ?_ ?_
  · simp (maxSteps := 3000000) (disch := first | exact trivial | assumption | omega | exact rOk | exact rCl | exact rNo) only [go_sem, seval, u32s, e0]
  · simp (maxSteps := 3000000) (disch := first | exact trivial | assumption | omega | exact rOk | exact rCl | exact rNo) only [go_sem, seval, u32s, e0]
    try exact fun i hi => Le.of_eq (by unfold lR; rw [List.getD_eq_getElem?_getD, List.getElem?_replicate, if_pos hi]; rfl)
  · intro x _; simp (maxSteps := 3000000) (disch := first | exact trivial | assumption | omega | exact rOk | exact rCl | exact rNo) only [go_sem, seval]
  rintro ⟨i, c, w⟩ hP
  have hn := hP.next la lb
  have hf := hP
  obtain ⟨h1, h2, h3, h4, h5⟩ := hP
  simp only at h1 h2 h3 h4 h5
  have g1 := la.getD i
  have g2 := lb.getD i
  by_cases hi : i = M + 1
  · subst hi
    obtain ⟨q1, q2⟩ := hfin _ _ hf
    have hc := ref_trim q1 (by omega)
    rw [q2] at hc
    clear h5 hf hn h4 hfin hP0
    simp (maxSteps := 3000000) (disch := first | exact trivial | assumption | omega | exact rOk | exact rCl | exact rNo) only [go_sem, seval, u32s]
    refine callC hc ?_ rfl ?_
    · simp (maxSteps := 3000000) (disch := first | exact trivial | assumption | omega | exact rOk | exact rCl | exact rNo) only [go_sem, seval, u32s]
      first | exact LesV_rows (by omega) fun j hj => rfl | (rw [h3]; exact LesV_rows rfl fun j hj => rfl)
    simp (maxSteps := 3000000) (disch := first | exact trivial | assumption | omega | exact rOk | exact rCl | exact rNo) only [go_sem, seval]
    try exact LeV.refl _
  have hi' : i < M + 1 := by omega
  have hn' := hn hi'
  clear hn hf h5 h4 h1 hfin hP0
  have done : ∀ t : Nat, t = c + l.getD i 0 + m.getD i 0 → bits .u64 .and (t : Int) 4294967295 = ((t % 4294967296 : Nat) : Int) ∧ IntKind.u32.wrap ((t % 4294967296 : Nat) : Int) = ((t % 4294967296 : Nat) : Int) ∧ (t : Int) / 4294967296 = ((t / 4294967296 : Nat) : Int) := fun t ht =>
    ⟨bits_andM t (by omega), wrap_u32 (by omega), by omega⟩
  by_cases hj : i < l.length
  · by_cases hk : i < m.length
    · obtain ⟨d1, d2, d3⟩ := done _ rfl
      have e3 : (c : Int) + ((l.getD i 0 : Nat) : Int) + ((m.getD i 0 : Nat) : Int) = ((c + l.getD i 0 + m.getD i 0 : Nat) : Int) := by omega
      simp (maxSteps := 3000000) (disch := first | exact trivial | assumption | omega | exact rOk | exact rCl | exact rNo) only [go_sem, seval, u32s, lR, e3, d1, d2, d3]
      refine ⟨_, hn', by show M + 1 - (i + 1) < M + 1 - i; omega, ?_, ?_⟩
      · simp (maxSteps := 3000000) (disch := first | exact trivial | assumption | omega | exact rOk | exact rCl | exact rNo) only [go_sem, seval, u32s]
        try exact LeV_int (by omega)
      · simp (maxSteps := 3000000) (disch := first | exact trivial | assumption | omega | exact rOk | exact rCl | exact rNo) only [go_sem, seval, u32s]
        exact fun j hj => Le.of_eq (lR_set' (w := w) (by omega))
    · have hy0 := getD_out' (l := m) (i := i) (by omega)
      rw [hy0, Nat.add_zero] at hn'
      obtain ⟨d1, d2, d3⟩ := done (c + l.getD i 0) (by omega)
      have e3 : (c : Int) + ((l.getD i 0 : Nat) : Int) = ((c + l.getD i 0 : Nat) : Int) := by omega
      simp (maxSteps := 3000000) (disch := first | exact trivial | assumption | omega | exact rOk | exact rCl | exact rNo) only [go_sem, seval, u32s, lR, e3, d1, d2, d3]
      refine ⟨_, hn', by show M + 1 - (i + 1) < M + 1 - i; omega, ?_, ?_⟩
      · simp (maxSteps := 3000000) (disch := first | exact trivial | assumption | omega | exact rOk | exact rCl | exact rNo) only [go_sem, seval, u32s]
        try exact LeV_int (by omega)
      · simp (maxSteps := 3000000) (disch := first | exact trivial | assumption | omega | exact rOk | exact rCl | exact rNo) only [go_sem, seval, u32s]
        exact fun j hj => Le.of_eq (lR_set' (w := w) (by omega))
  · have hx0 := getD_out' (l := l) (i := i) (by omega)
    by_cases hk : i < m.length
    · rw [hx0, Nat.add_zero] at hn'
      obtain ⟨d1, d2, d3⟩ := done (c + m.getD i 0) (by omega)
      have e3 : (c : Int) + ((m.getD i 0 : Nat) : Int) = ((c + m.getD i 0 : Nat) : Int) := by omega
      simp (maxSteps := 3000000) (disch := first | exact trivial | assumption | omega | exact rOk | exact rCl | exact rNo) only [go_sem, seval, u32s, lR, e3, d1, d2, d3]
      refine ⟨_, hn', by show M + 1 - (i + 1) < M + 1 - i; omega, ?_, ?_⟩
      · simp (maxSteps := 3000000) (disch := first | exact trivial | assumption | omega | exact rOk | exact rCl | exact rNo) only [go_sem, seval, u32s]
        try exact LeV_int (by omega)
      · simp (maxSteps := 3000000) (disch := first | exact trivial | assumption | omega | exact rOk | exact rCl | exact rNo) only [go_sem, seval, u32s]
        exact fun j hj => Le.of_eq (lR_set' (w := w) (by omega))
    · have hy0 := getD_out' (l := m) (i := i) (by omega)
      rw [hx0, hy0, Nat.add_zero, Nat.add_zero] at hn'
      obtain ⟨d1, d2, d3⟩ := done c (by omega)
      simp (maxSteps := 3000000) (disch := first | exact trivial | assumption | omega | exact rOk | exact rCl | exact rNo) only [go_sem, seval, u32s, lR, d1, d2, d3]
      refine ⟨_, hn', by show M + 1 - (i + 1) < M + 1 - i; omega, ?_, ?_⟩
      · simp (maxSteps := 3000000) (disch := first | exact trivial | assumption | omega | exact rOk | exact rCl | exact rNo) only [go_sem, seval, u32s]
        try exact LeV_int (by omega)
      · simp (maxSteps := 3000000) (disch := first | exact trivial | assumption | omega | exact rOk | exact rCl | exact rNo) only [go_sem, seval, u32s]
        exact fun j hj => Le.of_eq (lR_set' (w := w) (by omega))
end Go.Proofs.YtmcinfbckdiaoaaGreatDoor.Lv

set_option linter.unusedVariables false
set_option linter.unusedSimpArgs false
set_option maxRecDepth 100000
set_option maxHeartbeats 4000000
namespace Go.Proofs.YtmcinfbckdiaoaaGreatDoor.Lv
open Go Go.RowKit
theorem ref_SubNat {a b : Nat} (ha : nb a < 536870912) (hb : nb b < 536870912) (hab : b ≤ a) : C E 157 [nD a, nD b] (nD (a - b)) := by
  refine CG_intro Tryz.func157 rfl (by kernel_rfl) rfl (by kernel_rfl) (by kernel_rfl) rfl ?_
  unfold nb at ha hb
  have va := val_limbs a
  have vb := val_limbs b
  have la := limbs_low a
  have lb := limbs_low b
  have hle : (limbs b).length ≤ (limbs a).length := nb_mono hab
  simp only [nD]
  generalize limbs a = l at *
  generalize limbs b = m at *
  subst va vb
  simp (maxSteps := 3000000) (disch := first | exact trivial | assumption | omega | exact rOk | exact rCl | exact rNo) only [go_sem, seval, u32s]
  refine ⟨by omega, by omega, by omega, ?_⟩
  refine AL.of (DifP l m) (fun s => l.length - s.1) (fun s => [(0, u32s l), (1, u32s m), (5, .sl 0 0 0 l.length), (6, .int .u64 s.2.1), (7, .int .i64 s.1)]) (fun s => [(0, .row false 0 false 1 l.length (lR s.2.2))]) (0, 0, List.replicate l.length 0) ⟨by simp, by simp, by simp, lows_rep _, by simp [val]⟩ ?_ ?_ ?_ ?_
  · simp (maxSteps := 3000000) (disch := first | exact trivial | assumption | omega | exact rOk | exact rCl | exact rNo) only [go_sem, seval, u32s]
  · simp (maxSteps := 3000000) (disch := first | exact trivial | assumption | omega | exact rOk | exact rCl | exact rNo) only [go_sem, seval, u32s]
    try exact fun i hi => Le.of_eq (by unfold lR; rw [List.getD_eq_getElem?_getD, List.getElem?_replicate, if_pos hi]; rfl)
  · intro x _; simp (maxSteps := 3000000) (disch := first | exact trivial | assumption | omega | exact rOk | exact rCl | exact rNo) only [go_sem, seval]
  rintro ⟨i, c, w⟩ hP
  have hn := hP.next la lb
  have hf := hP
  obtain ⟨h1, h2, h3, h4, h5⟩ := hP
  simp only at h1 h2 h3 h4 h5
  have g1 := la.getD i
  have g2 := lb.getD i
  by_cases hi : i = l.length
  · subst hi
    obtain ⟨q1, q2⟩ := hf.fin hle hab
    have hc := ref_trim q1 (by omega)
    rw [q2] at hc
    clear h5 hf hn h4
    simp (maxSteps := 3000000) (disch := first | exact trivial | assumption | omega | exact rOk | exact rCl | exact rNo) only [go_sem, seval, u32s]
    refine callC hc ?_ rfl ?_
    · simp (maxSteps := 3000000) (disch := first | exact trivial | assumption | omega | exact rOk | exact rCl | exact rNo) only [go_sem, seval, u32s]
      first | exact LesV_rows (by omega) fun j hj => rfl | (rw [h3]; exact LesV_rows rfl fun j hj => rfl)
    simp (maxSteps := 3000000) (disch := first | exact trivial | assumption | omega | exact rOk | exact rCl | exact rNo) only [go_sem, seval]
    try exact LeV.refl _
  have hi' : i < l.length := by omega
  have hn' := hn hi'
  clear hn hf h5 h4 h1
  have key : ∀ y : Nat, y < 4294967296 → (l.getD i 0 < y + c → IntKind.u32.wrap (((l.getD i 0 : Nat) : Int) + 4294967296 - ((c + y : Nat) : Int)) = (((4294967296 + l.getD i 0 - c - y) % 4294967296 : Nat) : Int)) ∧ (¬ l.getD i 0 < y + c → IntKind.u32.wrap (((l.getD i 0 : Nat) : Int) - ((c + y : Nat) : Int)) = (((4294967296 + l.getD i 0 - c - y) % 4294967296 : Nat) : Int)) := fun y hy =>
    ⟨fun h => by rw [wrap_u32']; omega, fun h => by rw [wrap_u32']; omega⟩
  by_cases hj : i < m.length
  · obtain ⟨k1, k2⟩ := key _ g2
    have e3 : (c : Int) + ((m.getD i 0 : Nat) : Int) = ((c + m.getD i 0 : Nat) : Int) := by omega
    by_cases hlt : l.getD i 0 < m.getD i 0 + c
    · have k1 := k1 hlt
      rw [if_pos hlt] at hn'
      simp (maxSteps := 3000000) (disch := first | exact trivial | assumption | omega | exact rOk | exact rCl | exact rNo) only [go_sem, seval, u32s, lR, e3, k1]
      refine ⟨_, hn', by show l.length - (i + 1) < l.length - i; omega, ?_, ?_⟩
      · simp (maxSteps := 3000000) (disch := first | exact trivial | assumption | omega | exact rOk | exact rCl | exact rNo) only [go_sem, seval, u32s]
        try exact LeV_int (by omega)
      · simp (maxSteps := 3000000) (disch := first | exact trivial | assumption | omega | exact rOk | exact rCl | exact rNo) only [go_sem, seval, u32s]
        exact fun j hj => Le.of_eq (lR_set' (w := w) (by omega))
    · have k2 := k2 hlt
      rw [if_neg hlt] at hn'
      simp (maxSteps := 3000000) (disch := first | exact trivial | assumption | omega | exact rOk | exact rCl | exact rNo) only [go_sem, seval, u32s, lR, e3, k2]
      refine ⟨_, hn', by show l.length - (i + 1) < l.length - i; omega, ?_, ?_⟩
      · simp (maxSteps := 3000000) (disch := first | exact trivial | assumption | omega | exact rOk | exact rCl | exact rNo) only [go_sem, seval, u32s]
        try exact LeV_int (by omega)
      · simp (maxSteps := 3000000) (disch := first | exact trivial | assumption | omega | exact rOk | exact rCl | exact rNo) only [go_sem, seval, u32s]
        exact fun j hj => Le.of_eq (lR_set' (w := w) (by omega))
  · have hy0 := getD_out' (l := m) (i := i) (by omega)
    rw [hy0] at hn'
    obtain ⟨k1, k2⟩ := key 0 (by omega)
    rw [Nat.add_zero] at k1 k2
    by_cases hlt : l.getD i 0 < 0 + c
    · have k1 := k1 hlt
      rw [if_pos hlt] at hn'
      simp (maxSteps := 3000000) (disch := first | exact trivial | assumption | omega | exact rOk | exact rCl | exact rNo) only [go_sem, seval, u32s, lR, k1]
      refine ⟨_, hn', by show l.length - (i + 1) < l.length - i; omega, ?_, ?_⟩
      · simp (maxSteps := 3000000) (disch := first | exact trivial | assumption | omega | exact rOk | exact rCl | exact rNo) only [go_sem, seval, u32s]
        try exact LeV_int (by omega)
      · simp (maxSteps := 3000000) (disch := first | exact trivial | assumption | omega | exact rOk | exact rCl | exact rNo) only [go_sem, seval, u32s]
        exact fun j hj => Le.of_eq (lR_set' (w := w) (by omega))
    · have k2 := k2 hlt
      rw [if_neg hlt] at hn'
      simp (maxSteps := 3000000) (disch := first | exact trivial | assumption | omega | exact rOk | exact rCl | exact rNo) only [go_sem, seval, u32s, lR, k2]
      refine ⟨_, hn', by show l.length - (i + 1) < l.length - i; omega, ?_, ?_⟩
      · simp (maxSteps := 3000000) (disch := first | exact trivial | assumption | omega | exact rOk | exact rCl | exact rNo) only [go_sem, seval, u32s]
        try exact LeV_int (by omega)
      · simp (maxSteps := 3000000) (disch := first | exact trivial | assumption | omega | exact rOk | exact rCl | exact rNo) only [go_sem, seval, u32s]
        exact fun j hj => Le.of_eq (lR_set' (w := w) (by omega))
/-- A shift under way: what is ahead is nought. -/
def RshI (x : List Nat) (s r i : Nat) (w : List Nat) : Prop := ShlI x s r i w ∧ ∀ j, i + s < j → w.getD j 0 = 0
theorem rep_getD (n j : Nat) : (List.replicate n 0).getD j 0 = 0 := by
  rw [List.getD_eq_getElem?_getD, List.getElem?_replicate]; split <;> rfl
theorem ref_Shl {a : Nat} (ha : nb a < 536870000) {n : Nat} (hn : n < 2147483648) : C E 168 [nD a, .int .i64 n] (nD (a * 2 ^ n)) := by
  refine CG_intro Tryz.func168 rfl (by kernel_rfl) rfl (by kernel_rfl) (by kernel_rfl) rfl ?_
  have hpow : 2 ^ n = 2 ^ (n % 32) * 4294967296 ^ (n / 32) := by
    conv => lhs; rw [← Nat.div_add_mod n 32]
    rw [Nat.pow_add, Nat.pow_mul, Nat.mul_comm]
  rw [hpow]
  clear hpow
  unfold nb at ha
  have va := val_limbs a
  have la := limbs_low a
  have hq := quo32 n
  have hr := rem32 n
  have hr32 : n % 32 < 32 := Nat.mod_lt _ (by omega)
  have hs32 : n / 32 ≤ 67108864 := by omega
  simp only [nD]
  generalize limbs a = l at *
  subst va
  generalize n / 32 = s at *
  generalize n % 32 = r at *
  have e0 : ((l.length : Int) + (s : Int) + 1).toNat = l.length + s + 1 := by omega
  simp (maxSteps := 3000000) (disch := first | exact trivial | assumption | omega | exact rOk | exact rCl | exact rNo) only [go_sem, seval, u32s, e0, hq, hr]
  refine ⟨by omega, by omega, by omega, ?_⟩
  refine AL.of (fun z : Nat × List Nat => RshI l s r z.1 z.2) (fun z => l.length - z.1) (fun z => [(0, u32s l), (1, .int .i64 n), (5, .sl 0 0 0 (l.length + s + 1)), (6, .int .i64 z.1)])
    (fun z => [(0, .row false 0 false 1 (l.length + s + 1) (lR z.2))]) (0, List.replicate (l.length + s + 1) 0) ⟨ShlI.zero l s r, fun j _ => rep_getD _ j⟩ ?_ ?_ ?_ ?_
  · simp (maxSteps := 3000000) (disch := first | exact trivial | assumption | omega | exact rOk | exact rCl | exact rNo) only [go_sem, seval, u32s, e0]
  · simp (maxSteps := 3000000) (disch := first | exact trivial | assumption | omega | exact rOk | exact rCl | exact rNo) only [go_sem, seval, u32s, e0]
    try exact fun i hi => Le.of_eq (by unfold lR; rw [List.getD_eq_getElem?_getD, List.getElem?_replicate, if_pos hi]; rfl)
  · intro x _; simp (maxSteps := 3000000) (disch := first | exact trivial | assumption | omega | exact rOk | exact rCl | exact rNo) only [go_sem, seval]
  rintro ⟨i, w⟩ hI
  obtain ⟨hI, hz⟩ : RshI l s r i w := hI
  by_cases hi : i = l.length
  · subst hi
    obtain ⟨q1, q2⟩ := hI.fin
    have hlen := hI.2.1
    have hc := ref_trim q1 (by omega)
    rw [q2] at hc
    clear hI
    simp (maxSteps := 3000000) (disch := first | exact trivial | assumption | omega | exact rOk | exact rCl | exact rNo) only [go_sem, seval, u32s]
    refine callC hc ?_ rfl ?_
    · simp (maxSteps := 3000000) (disch := first | exact trivial | assumption | omega | exact rOk | exact rCl | exact rNo) only [go_sem, seval, u32s]
      exact LesV_rows (by omega) fun j hj => rfl
    simp (maxSteps := 3000000) (disch := first | exact trivial | assumption | omega | exact rOk | exact rCl | exact rNo) only [go_sem, seval]
    try exact LeV.refl _
  · have hil : i ≤ l.length := hI.1
    have hi' : i < l.length := by omega
    obtain ⟨g1, g2, hnx⟩ := hI.next la hr32 hi'
    have hlen := hI.2.1
    have hw := hI.2.2.1.getD (i + s)
    have e1 : ((i : Int) + (s : Int)).toNat = i + s := by omega
    have e2 : ((i : Int) + (s : Int) + 1).toNat = i + s + 1 := by omega
    obtain ⟨f1, f2, f3, f4⟩ := shl_fact (l.getD i 0) r (la.getD i) hr32
    have fb := (shl_limb (la.getD i) hr32).1
    have hm := bits_andM (l.getD i 0 * 2 ^ r) (by omega)
    have hmw : IntKind.u32.wrap ((l.getD i 0 * 2 ^ r % 4294967296 : Nat) : Int) = ((l.getD i 0 * 2 ^ r % 4294967296 : Nat) : Int) := wrap_u32 (by omega)
    have ho := bits_or32 (w.getD (i + s) 0) (l.getD i 0 * 2 ^ r % 4294967296) hw (Nat.mod_lt _ (by omega))
    rw [g1] at ho
    have hz1 := hz (i + s + 1) (by omega)
    have ho2 := bits_or32 0 (l.getD i 0 * 2 ^ r / 4294967296) (by omega) (by omega)
    rw [Nat.zero_or] at ho2
    have ho3 : bits .u32 .or 0 ((l.getD i 0 * 2 ^ r / 4294967296 : Nat) : Int) = ((l.getD i 0 * 2 ^ r / 4294967296 : Nat) : Int) := ho2
    have hne : i + s + 1 ≠ i + s := by omega
    have gx := la.getD i
    have hzn : ∀ j, i + 1 + s < j → ((w.set (i + s) (w.getD (i + s) 0 + l.getD i 0 * 2 ^ r % 4294967296)).set (i + s + 1) (l.getD i 0 * 2 ^ r / 4294967296)).getD j 0 = 0 := fun j hj => by
      rw [List.getD_eq_getElem?_getD, List.getElem?_set_ne (by omega), List.getElem?_set_ne (by omega), ← List.getD_eq_getElem?_getD]
      exact hz j (by omega)
    clear hI hz
    simp (maxSteps := 3000000) (disch := first | exact trivial | assumption | omega | exact rOk | exact rCl | exact rNo) only [go_sem, seval, u32s, lR, e1, e2, hq, hr, f1, hm, hmw, f3, f4, ho, hz1, ho2, ho3, hne, min64]
    refine ⟨(i + 1, _), ⟨hnx, hzn⟩, by show l.length - (i + 1) < l.length - i; omega, ?_, ?_⟩
    · simp (maxSteps := 3000000) (disch := first | exact trivial | assumption | omega | exact rOk | exact rCl | exact rNo) only [go_sem, seval, u32s]
      try exact LeV_int (by omega)
    · simp (maxSteps := 3000000) (disch := first | exact trivial | assumption | omega | exact rOk | exact rCl | exact rNo) only [go_sem, seval, u32s]
      exact fun j hj => Le.of_eq (lR_set2 (w := w) (by omega) (by omega))
theorem nbit_half {v : Nat} (h : 0 < v) : nbit v = nbit (v / 2) + 1 := by
  rcases (show v = 1 ∨ 2 ≤ v by omega) with h | h
  · subst h; rfl
  · have := nbit_div v 1 (by omega)
    rwa [Nat.pow_one] at this
theorem ref_Bits {n : Nat} (hn : nb n < 1073741824) : C E 107 [nD n] (.int .i64 (nbit n)) := by
  refine CG_intro Tryz.func107 rfl (by kernel_rfl) rfl (by kernel_rfl) (by kernel_rfl) rfl ?_
  unfold nb at hn
  by_cases h0 : n = 0
  · subst h0
    simp (maxSteps := 3000000) (disch := first | exact trivial | assumption | omega | exact rOk | exact rCl | exact rNo) only [go_sem, seval, nD, u32s, limbs_zero]
    try exact LeV.refl _
  obtain ⟨k, hk⟩ : ∃ k, (limbs n).length = k + 1 := ⟨(limbs n).length - 1, by have := limbs_ne h0; omega⟩
  obtain ⟨e1, e2⟩ := nbit_limbs hk
  have e3 : (((k + 1 : Nat) : Int) - 1).toNat = k := by omega
  have hlt := lows_getD (limbs_low n) k
  have hnb : nbit ((limbs n).getD k 0) ≤ 32 := nbit_lt.2 hlt
  rw [e1]
  generalize hT : (limbs n).getD k 0 = t at *
  simp (maxSteps := 3000000) (disch := first | exact trivial | assumption | omega | exact rOk | exact rCl | exact rNo) only [go_sem, seval, nD, u32s, hk, e3, hT]
  refine AL.of (fun v : Nat => v ≤ t ∧ nbit v ≤ nbit t) (fun v => v) (fun v => [(3, .int .i64 ((32 * k + (nbit t - nbit v) : Nat) : Int)), (4, .int .u32 v)]) (fun _ => []) t ⟨Nat.le_refl _, Nat.le_refl _⟩ ?_ ?_ ?_ ?_
  · simp (maxSteps := 3000000) (disch := first | exact trivial | assumption | omega | exact rOk | exact rCl | exact rNo) only [go_sem, seval]
    try exact LeV_int (by omega)
  · simp (maxSteps := 3000000) (disch := first | exact trivial | assumption | omega | exact rOk | exact rCl | exact rNo) only [go_sem, seval]
  · intro x _; simp (maxSteps := 3000000) (disch := first | exact trivial | assumption | omega | exact rOk | exact rCl | exact rNo) only [go_sem, seval]
  rintro v ⟨hv, hvb⟩
  by_cases hv0 : 0 < v
  · have hh := nbit_half hv0
    have ed : (v : Int) / 2 = ((v / 2 : Nat) : Int) := by omega
    simp (maxSteps := 3000000) (disch := first | exact trivial | assumption | omega | exact rOk | exact rCl | exact rNo) only [go_sem, seval, ed]
    refine ⟨v / 2, ⟨by omega, by omega⟩, by show v / 2 < v; omega, ?_, ?_⟩
    · simp (maxSteps := 3000000) (disch := first | exact trivial | assumption | omega | exact rOk | exact rCl | exact rNo) only [go_sem, seval]
      try exact LeV_int (by omega)
    · simp (maxSteps := 3000000) (disch := first | exact trivial | assumption | omega | exact rOk | exact rCl | exact rNo) only [go_sem, seval]
  · obtain rfl : v = 0 := by omega
    have hz : nbit 0 = 0 := rfl
    rw [hz]
    simp (maxSteps := 3000000) (disch := first | exact trivial | assumption | omega | exact rOk | exact rCl | exact rNo) only [go_sem, seval]
    try exact LeV_int (by omega)
end Go.Proofs.YtmcinfbckdiaoaaGreatDoor.Lv

set_option linter.unusedVariables false
set_option linter.unusedSimpArgs false
set_option maxRecDepth 100000
set_option maxHeartbeats 4000000
namespace Go.Proofs.YtmcinfbckdiaoaaGreatDoor.Lv
open Go Go.RowKit
theorem sgI_le (a b : Nat) : decide (sgI (a : Int) (b : Int) ≤ 0) = decide (a ≤ b) := by
  rcases (show a < b ∨ a = b ∨ b < a by omega) with h | h | h
  · rw [sgI_lt (by omega), decide_eq_true (show a ≤ b by omega)]; rfl
  · rw [h, sgI_eq, decide_eq_true (Nat.le_refl b)]; rfl
  · rw [sgI_gt (by omega), decide_eq_false (show ¬ a ≤ b by omega)]; rfl
/-- A division by shifts, under way. -/
def DvP (a b : Nat) (s : Int × Nat × Nat) : Prop := a = s.2.1 * b + s.2.2 ∧ s.2.2 < b * 2 ^ (s.1 + 1).toNat ∧ s.1 + nbit b ≤ nbit a
theorem nbit_ge {n : Nat} (h : n ≠ 0) : 2 ^ (nbit n - 1) ≤ n := by
  rcases Nat.lt_or_ge n (2 ^ (nbit n - 1)) with h1 | h1
  · have h2 := nbit_lt.2 h1
    have h3 := nbit_pos (Nat.pos_of_ne_zero h)
    omega
  · exact h1
theorem DvP.zero {a b : Nat} (hb : b ≠ 0) : DvP a b ((nbit a : Int) - nbit b, 0, a) := by
  refine ⟨by simp, ?_, by show (nbit a : Int) - nbit b + nbit b ≤ nbit a; omega⟩
  show a < b * 2 ^ ((nbit a : Int) - nbit b + 1).toNat
  have h1 := (nbit_lt (n := a) (k := nbit a)).1 (Nat.le_refl _)
  have h2 := nbit_ge hb
  have h3 := nbit_pos (Nat.pos_of_ne_zero hb)
  rcases Nat.lt_or_ge (nbit a) (nbit b) with h | h
  · have : ((nbit a : Int) - nbit b + 1).toNat = 0 := by omega
    rw [this, Nat.pow_zero, Nat.mul_one]
    have h4 : 2 ^ nbit a ≤ 2 ^ (nbit b - 1) := Nat.pow_le_pow_right (by omega) (by omega)
    omega
  · obtain ⟨d, hd⟩ : ∃ d, nbit a = nbit b - 1 + (d + 1) := ⟨nbit a - nbit b, by omega⟩
    have : ((nbit a : Int) - nbit b + 1).toNat = d + 1 := by omega
    rw [this]
    rw [hd, Nat.pow_add] at h1
    exact Nat.lt_of_lt_of_le h1 (Nat.mul_le_mul_right _ h2)
theorem DvP.yes {a b j q r : Nat} (h : DvP a b ((j : Int), q, r)) (hx : b * 2 ^ j ≤ r) : DvP a b ((j : Int) - 1, q + 2 ^ j, r - b * 2 ^ j) := by
  obtain ⟨h1, h2, h3⟩ := h
  simp only at h1 h2 h3
  have e1 : ((j : Int) + 1).toNat = j + 1 := by omega
  have e2 : ((j : Int) - 1 + 1).toNat = j := by omega
  rw [e1, Nat.pow_succ, ← Nat.mul_assoc] at h2
  refine ⟨?_, ?_, by show (j : Int) - 1 + nbit b ≤ nbit a; omega⟩
  · show a = (q + 2 ^ j) * b + (r - b * 2 ^ j)
    rw [Nat.add_mul, Nat.mul_comm (2 ^ j) b]
    generalize b * 2 ^ j = x at *
    omega
  · show r - b * 2 ^ j < b * 2 ^ ((j : Int) - 1 + 1).toNat
    rw [e2]
    generalize b * 2 ^ j = x at *
    omega
theorem DvP.no {a b j q r : Nat} (h : DvP a b ((j : Int), q, r)) (hx : ¬ b * 2 ^ j ≤ r) : DvP a b ((j : Int) - 1, q, r) := by
  obtain ⟨h1, h2, h3⟩ := h
  simp only at h1 h2 h3
  have e2 : ((j : Int) - 1 + 1).toNat = j := by omega
  exact ⟨h1, by show r < b * 2 ^ ((j : Int) - 1 + 1).toNat; rw [e2]; omega, by show (j : Int) - 1 + nbit b ≤ nbit a; omega⟩
theorem DvP.fin {a b q r : Nat} {i : Int} (hb : b ≠ 0) (h : DvP a b (i, q, r)) (hi : i < 0) : a / b = q ∧ a % b = r := by
  obtain ⟨h1, h2, h3⟩ := h
  simp only at h1 h2 h3
  have : (i + 1).toNat = 0 := by omega
  rw [this, Nat.pow_zero, Nat.mul_one] at h2
  exact div_mod_of (by omega) (by rw [h1, Nat.mul_comm]) h2
theorem DvP.sz {a b j q r : Nat} (hb : b ≠ 0) (h : DvP a b ((j : Int), q, r)) : nb q ≤ nb a ∧ nb r ≤ nb a ∧ nb (b * 2 ^ j) ≤ nb a ∧ nb (2 ^ j) ≤ nb a := by
  obtain ⟨h1, h2, h3⟩ := h
  simp only at h1 h2 h3
  have hq : q * 1 ≤ q * b := Nat.mul_le_mul_left _ (by omega)
  have hx : nb (b * 2 ^ j) ≤ nb a := by
    have e := nbit_shl hb j
    have h4 := (nb_nbit (n := a) (k := nb a)).1 (Nat.le_refl _)
    exact nb_nbit.2 (by omega)
  have hp : 1 * 2 ^ j ≤ b * 2 ^ j := Nat.mul_le_mul_right _ (by omega)
  refine ⟨nb_mono (by omega), nb_mono (by omega), hx, Nat.le_trans (nb_mono (by omega)) hx⟩
theorem nD_zero : LeV .nils (nD 0) := by rw [nD, limbs_zero]; exact LeV.nils
theorem ref_DivNat {a b : Nat} (ha : nb a < 60000000) (hb : nb b < 60000000) (hb0 : b ≠ 0) : C E 155 [nD a, nD b] (.tup [nD (a / b), nD (a % b)]) := by
  refine CG_intro Tryz.func155 rfl (by kernel_rfl) rfl (by kernel_rfl) (by kernel_rfl) rfl ?_
  have ba := nbit_nb a
  have bb := nbit_nb b
  simp (maxSteps := 3000000) (disch := first | exact trivial | assumption | omega | exact rOk | exact rCl | exact rNo) only [go_sem, seval]
  refine callC (ref_Bits (n := a) (by omega)) ?_ rfl ?_
  · simp (maxSteps := 3000000) (disch := first | exact trivial | assumption | omega | exact rOk | exact rCl | exact rNo) only [go_sem, seval]
  simp (maxSteps := 3000000) (disch := first | exact trivial | assumption | omega | exact rOk | exact rCl | exact rNo) only [go_sem, seval]
  refine callC (ref_Bits (n := b) (by omega)) ?_ rfl ?_
  · simp (maxSteps := 3000000) (disch := first | exact trivial | assumption | omega | exact rOk | exact rCl | exact rNo) only [go_sem, seval]
  simp (maxSteps := 3000000) (disch := first | exact trivial | assumption | omega | exact rOk | exact rCl | exact rNo) only [go_sem, seval]
  refine AL.of (DvP a b) (fun s => (s.1 + 1).toNat) (fun s => [(1, nD b), (6, nD s.2.1), (7, nD s.2.2), (8, .int .i64 s.1)]) (fun _ => []) ((nbit a : Int) - nbit b, 0, a) (DvP.zero hb0) ?_ ?_ ?_ ?_
  · simp (maxSteps := 3000000) (disch := first | exact trivial | assumption | omega | exact rOk | exact rCl | exact rNo) only [go_sem, seval]
    exact nD_zero
  · simp (maxSteps := 3000000) (disch := first | exact trivial | assumption | omega | exact rOk | exact rCl | exact rNo) only [go_sem, seval]
  · intro x _; simp (maxSteps := 3000000) (disch := first | exact trivial | assumption | omega | exact rOk | exact rCl | exact rNo) only [go_sem, seval]
  rintro ⟨i, q, r⟩ hP
  by_cases hi : i < 0
  · obtain ⟨e1, e2⟩ := hP.fin hb0 hi
    rw [e1, e2]
    simp (maxSteps := 3000000) (disch := first | exact trivial | assumption | omega | exact rOk | exact rCl | exact rNo) only [go_sem, seval]
  · obtain ⟨j, rfl⟩ := Int.eq_ofNat_of_zero_le (show 0 ≤ i by omega)
    obtain ⟨z1, z2, z3, z4⟩ := hP.sz hb0
    have hj : (j : Int) + nbit b ≤ nbit a := hP.2.2
    have hle := sgI_le (b * 2 ^ j) r
    have hS := ref_Shl (a := b) (by omega) (n := j) (by omega)
    have h1nb : nb 1 ≤ 1 := nb_lt.2 (by omega)
    have hS1 := ref_Shl (a := 1) (by omega) (n := j) (by omega)
    rw [Nat.one_mul] at hS1
    have hy := hP.yes
    have hn := hP.no
    clear hP
    generalize b * 2 ^ j = x at *
    generalize 2 ^ j = p at *
    simp (maxSteps := 3000000) (disch := first | exact trivial | assumption | omega | exact rOk | exact rCl | exact rNo) only [go_sem, seval]
    refine callC hS ?_ rfl ?_
    · simp (maxSteps := 3000000) (disch := first | exact trivial | assumption | omega | exact rOk | exact rCl | exact rNo) only [go_sem, seval]
    simp (maxSteps := 3000000) (disch := first | exact trivial | assumption | omega | exact rOk | exact rCl | exact rNo) only [go_sem, seval]
    refine callC (ref_CmpNat (a := x) (b := r) (by omega) (by omega)) ?_ rfl ?_
    · simp (maxSteps := 3000000) (disch := first | exact trivial | assumption | omega | exact rOk | exact rCl | exact rNo) only [go_sem, seval]
    by_cases hx : x ≤ r
    · rw [decide_eq_true hx] at hle
      simp (maxSteps := 3000000) (disch := first | exact trivial | assumption | omega | exact rOk | exact rCl | exact rNo) only [go_sem, seval, hle]
      refine callC (ref_SubNat (a := r) (b := x) (by omega) (by omega) hx) ?_ rfl ?_
      · simp (maxSteps := 3000000) (disch := first | exact trivial | assumption | omega | exact rOk | exact rCl | exact rNo) only [go_sem, seval]
      simp (maxSteps := 3000000) (disch := first | exact trivial | assumption | omega | exact rOk | exact rCl | exact rNo) only [go_sem, seval]
      refine callC (ref_NatOf (v := 1) (by omega)) ?_ rfl ?_
      · simp (maxSteps := 3000000) (disch := first | exact trivial | assumption | omega | exact rOk | exact rCl | exact rNo) only [go_sem, seval]
        try exact LesV.refl _
      simp (maxSteps := 3000000) (disch := first | exact trivial | assumption | omega | exact rOk | exact rCl | exact rNo) only [go_sem, seval]
      refine callC hS1 ?_ rfl ?_
      · simp (maxSteps := 3000000) (disch := first | exact trivial | assumption | omega | exact rOk | exact rCl | exact rNo) only [go_sem, seval]
      simp (maxSteps := 3000000) (disch := first | exact trivial | assumption | omega | exact rOk | exact rCl | exact rNo) only [go_sem, seval]
      refine callC (ref_AddNat (a := q) (b := p) (by omega) (by omega)) ?_ rfl ?_
      · simp (maxSteps := 3000000) (disch := first | exact trivial | assumption | omega | exact rOk | exact rCl | exact rNo) only [go_sem, seval]
      simp (maxSteps := 3000000) (disch := first | exact trivial | assumption | omega | exact rOk | exact rCl | exact rNo) only [go_sem, seval]
      refine ⟨_, hy hx, by show ((j : Int) - 1 + 1).toNat < ((j : Int) + 1).toNat; omega, ?_, ?_⟩
      · simp (maxSteps := 3000000) (disch := first | exact trivial | assumption | omega | exact rOk | exact rCl | exact rNo) only [go_sem, seval]
      · simp (maxSteps := 3000000) (disch := first | exact trivial | assumption | omega | exact rOk | exact rCl | exact rNo) only [go_sem, seval]
    · rw [decide_eq_false hx] at hle
      simp (maxSteps := 3000000) (disch := first | exact trivial | assumption | omega | exact rOk | exact rCl | exact rNo) only [go_sem, seval, hle]
      refine ⟨_, hn hx, by show ((j : Int) - 1 + 1).toNat < ((j : Int) + 1).toNat; omega, ?_, ?_⟩
      · simp (maxSteps := 3000000) (disch := first | exact trivial | assumption | omega | exact rOk | exact rCl | exact rNo) only [go_sem, seval]
      · simp (maxSteps := 3000000) (disch := first | exact trivial | assumption | omega | exact rOk | exact rCl | exact rNo) only [go_sem, seval]
theorem ref_Gcd {a b : Nat} (ha : nb a < 60000000) (hb : nb b < 60000000) : C E 124 [nD a, nD b] (nD (Nat.gcd a b)) := by
  refine CG_intro Tryz.func124 rfl (by kernel_rfl) rfl (by kernel_rfl) (by kernel_rfl) rfl ?_
  simp (maxSteps := 3000000) (disch := first | exact trivial | assumption | omega | exact rOk | exact rCl | exact rNo) only [go_sem, seval]
  generalize hg : Nat.gcd a b = g
  refine AL.of (fun s : Nat × Nat => nb s.1 < 60000000 ∧ nb s.2 < 60000000 ∧ Nat.gcd s.1 s.2 = g) (fun s => s.2) (fun s => [(0, nD s.1), (1, nD s.2)]) (fun _ => []) (a, b) ⟨ha, hb, hg⟩ ?_ ?_ ?_ ?_
  · simp (maxSteps := 3000000) (disch := first | exact trivial | assumption | omega | exact rOk | exact rCl | exact rNo) only [go_sem, seval]
  · simp (maxSteps := 3000000) (disch := first | exact trivial | assumption | omega | exact rOk | exact rCl | exact rNo) only [go_sem, seval]
  · intro x _; simp (maxSteps := 3000000) (disch := first | exact trivial | assumption | omega | exact rOk | exact rCl | exact rNo) only [go_sem, seval]
  clear hg ha hb
  rintro ⟨a, b⟩ ⟨ha, hb, hg⟩
  simp only at ha hb hg
  have hlb : (limbs b).length = nb b := rfl
  by_cases h0 : b = 0
  · subst h0
    rw [Nat.gcd_zero_right] at hg
    subst hg
    have hl0 : nb 0 = 0 := by unfold nb; rw [limbs_zero]; rfl
    simp (maxSteps := 3000000) (disch := first | exact trivial | assumption | omega | exact rOk | exact rCl | exact rNo) only [go_sem, seval, nD, u32s, hlb, hl0]
  · have hp := limbs_ne h0
    have hlt : a % b < b := Nat.mod_lt _ (by omega)
    have hm := nb_mono (Nat.le_of_lt hlt)
    simp (maxSteps := 3000000) (disch := first | exact trivial | assumption | omega | exact rOk | exact rCl | exact rNo) only [go_sem, seval, nD, u32s, hlb]
    refine callC (ref_DivNat ha hb h0) ?_ rfl ?_
    · simp (maxSteps := 3000000) (disch := first | exact trivial | assumption | omega | exact rOk | exact rCl | exact rNo) only [go_sem, seval, nD, u32s, hlb]
    simp (maxSteps := 3000000) (disch := first | exact trivial | assumption | omega | exact rOk | exact rCl | exact rNo) only [go_sem, seval, nD, u32s, hlb]
    refine ⟨(b, a % b), ⟨hb, Nat.lt_of_le_of_lt hm hb, by rw [gcd_step]; exact hg⟩, hlt, ?_, ?_⟩
    · simp (maxSteps := 3000000) (disch := first | exact trivial | assumption | omega | exact rOk | exact rCl | exact rNo) only [go_sem, seval, nD, u32s, hlb]
    · simp (maxSteps := 3000000) (disch := first | exact trivial | assumption | omega | exact rOk | exact rCl | exact rNo) only [go_sem, seval]
theorem limb_bit (n i : Nat) : (limbs n).getD (i / 32) 0 / 2 ^ (i % 32) % 2 = n / 2 ^ i % 2 := by
  have hr : i % 32 < 32 := Nat.mod_lt _ (by omega)
  have hpow : 2 ^ i = 4294967296 ^ (i / 32) * 2 ^ (i % 32) := by
    conv => lhs; rw [← Nat.div_add_mod i 32]
    rw [Nat.pow_add, Nat.pow_mul]
  rw [hpow, ← Nat.div_div_eq_div_mul]
  generalize i / 32 = s
  generalize i % 32 = r at *
  rcases Nat.lt_or_ge s (limbs n).length with h | h
  · have hd := val_drop (limbs_low n) (s := s) (by omega)
    rw [val_limbs, val_getD_drop h] at hd
    rw [← hd]
    have e : (4294967296 : Nat) = 2 ^ r * 2 ^ (32 - r) := by rw [← Nat.pow_add, show r + (32 - r) = 32 by omega]
    have e2 : 2 ^ (32 - r) = 2 * 2 ^ (31 - r) := by rw [show 32 - r = (31 - r) + 1 by omega, Nat.pow_succ, Nat.mul_comm]
    have hp := Nat.two_pow_pos r
    generalize (limbs n).getD s 0 = x
    generalize val ((limbs n).drop (s + 1)) = y
    rw [e, Nat.mul_assoc, Nat.add_mul_div_left _ _ hp, e2, Nat.mul_assoc, Nat.add_mul_mod_self_left]
  · have h1 : (limbs n).getD s 0 = 0 := getD_out' h
    have h2 : n / 4294967296 ^ s = 0 := Nat.div_eq_of_lt ((nb_lt (n := n) (k := s)).1 h)
    rw [h1, h2]
theorem ref_Bit {n : Nat} (hn : nb n < 60000000) {i : Nat} (hi : i < 32 * nb n) : C E 150 [nD n, .int .i64 i] (.int .u32 ((n / 2 ^ i % 2 : Nat) : Int)) := by
  refine CG_intro Tryz.func150 rfl (by kernel_rfl) rfl (by kernel_rfl) (by kernel_rfl) rfl ?_
  rw [← limb_bit]
  have hq := quo32 i
  have hr := rem32 i
  have hr32 : i % 32 < 32 := Nat.mod_lt _ (by omega)
  have hs : i / 32 < nb n := by omega
  unfold nb at hn hs hi
  have gx := (limbs_low n).getD (i / 32)
  have hle : (limbs n).getD (i / 32) 0 / 2 ^ (i % 32) ≤ (limbs n).getD (i / 32) 0 := Nat.div_le_self _ _
  have f1 := (shr_fact _ _ gx hr32).1
  simp only [nD]
  generalize limbs n = l at *
  generalize hS : i / 32 = s at *
  generalize hR : i % 32 = r at *
  generalize hX : l.getD s 0 = x at *
  have ha := bits_and32 (x / 2 ^ r) 1 (by omega) (by omega)
  rw [Nat.and_one_is_mod] at ha
  generalize x / 2 ^ r = y at *
  have ha2 : bits .u32 .and (y : Int) 1 = ((y % 2 : Nat) : Int) := ha
  simp (maxSteps := 3000000) (disch := first | exact trivial | assumption | omega | exact rOk | exact rCl | exact rNo) only [go_sem, seval, u32s, hq, hr, hX, min32, f1, ha2]
theorem ref_Zeros {n : Nat} (hn : nb n < 60000000) : C E 106 [nD n] (.int .i64 (tz n)) := by
  refine CG_intro Tryz.func106 rfl (by kernel_rfl) rfl (by kernel_rfl) (by kernel_rfl) rfl ?_
  have hln : (limbs n).length = nb n := rfl
  have hB := fun i => @ref_Bit n hn i
  have hcl := cl_nD n
  by_cases h0 : n = 0
  · subst h0
    have hl0 : nb 0 = 0 := by unfold nb; rw [limbs_zero]; rfl
    have ht0 : tz 0 = 0 := by rw [tz]; simp
    rw [ht0]
    simp (maxSteps := 3000000) (disch := first | exact trivial | assumption | omega | exact rOk | exact rCl | exact rNo) only [go_sem, seval, nD, u32s, hln, hl0]
    refine AL.of (fun _ : Unit => True) (fun _ => 0) (fun _ => [(0, nD 0), (3, .int .i64 0)]) (fun _ => []) () trivial ?_ ?_ ?_ ?_
    · simp (maxSteps := 3000000) (disch := first | exact trivial | assumption | omega | exact rOk | exact rCl | exact rNo) only [go_sem, seval, nD, u32s, hln, hl0]
    · simp (maxSteps := 3000000) (disch := first | exact trivial | assumption | omega | exact rOk | exact rCl | exact rNo) only [go_sem, seval]
    · intro x _; simp (maxSteps := 3000000) (disch := first | exact trivial | assumption | omega | exact rOk | exact rCl | exact rNo) only [go_sem, seval]
    rintro ⟨⟩ _
    simp (maxSteps := 3000000) (disch := first | exact trivial | assumption | omega | exact rOk | exact rCl | exact rNo) only [go_sem, seval, nD, u32s, hln, hl0]
  obtain ⟨c, hc⟩ := tz_spec h0
  have htn : tz n < 32 * nb n := by
    have h1 := nbit_nb n
    have h2 : 2 ^ tz n * 1 ≤ 2 ^ tz n * (2 * c + 1) := Nat.mul_le_mul_left _ (by omega)
    have h3 : ¬ nbit n ≤ tz n := fun h => by have := nbit_lt.1 h; omega
    omega
  have hz : ∀ k, k < tz n → n / 2 ^ k % 2 = 0 := fun k hk => by
    conv => lhs; rw [hc]
    rw [show tz n = k + (tz n - k - 1 + 1) by omega, Nat.pow_add, Nat.mul_assoc, Nat.mul_div_cancel_left _ (Nat.two_pow_pos k), Nat.pow_succ, Nat.mul_assoc, Nat.mul_left_comm, Nat.mul_mod_right]
  have ho : n / 2 ^ tz n % 2 = 1 := by
    have : n / 2 ^ tz n = 2 * c + 1 := Nat.div_eq_of_eq_mul_right (Nat.two_pow_pos _) hc
    omega
  generalize tz n = t at *
  clear hc h0
  simp (maxSteps := 3000000) (disch := first | exact trivial | assumption | omega | exact rOk | exact rCl | exact rNo) only [go_sem, seval]
  refine AL.of (fun k : Nat => k ≤ t) (fun k => t - k) (fun k => [(0, nD n), (3, .int .i64 k)]) (fun _ => []) 0 (Nat.zero_le _) ?_ ?_ ?_ ?_
  · simp (maxSteps := 3000000) (disch := first | exact trivial | assumption | omega | exact rOk | exact rCl | exact rNo) only [go_sem, seval]
  · simp (maxSteps := 3000000) (disch := first | exact trivial | assumption | omega | exact rOk | exact rCl | exact rNo) only [go_sem, seval]
  · intro x _; simp (maxSteps := 3000000) (disch := first | exact trivial | assumption | omega | exact rOk | exact rCl | exact rNo) only [go_sem, seval]
  rintro k hk
  have hb := hB k (by omega)
  have hlD : nD n = .ro false 1 (nb n) fun i => .int .u32 (((limbs n).getD i 0 : Nat) : Int) := rfl
  simp (maxSteps := 3000000) (disch := first | exact trivial | assumption | omega | exact rOk | exact rCl | exact rNo) only [go_sem, seval, nD, u32s, hln]
  refine callC hb ?_ rfl ?_
  · simp (maxSteps := 3000000) (disch := first | exact trivial | assumption | omega | exact rOk | exact rCl | exact rNo) only [go_sem, seval, nD, u32s, hln]
  by_cases hkt : k = t
  · subst hkt
    rw [ho]
    simp (maxSteps := 3000000) (disch := first | exact trivial | assumption | omega | exact rOk | exact rCl | exact rNo) only [go_sem, seval]
  · rw [hz k (by omega)]
    simp (maxSteps := 3000000) (disch := first | exact trivial | assumption | omega | exact rOk | exact rCl | exact rNo) only [go_sem, seval]
    refine ⟨k + 1, by omega, by show t - (k + 1) < t - k; omega, ?_, ?_⟩
    · simp (maxSteps := 3000000) (disch := first | exact trivial | assumption | omega | exact rOk | exact rCl | exact rNo) only [go_sem, seval, nD, u32s, hln]
      try exact LeV_int (by omega)
    · simp (maxSteps := 3000000) (disch := first | exact trivial | assumption | omega | exact rOk | exact rCl | exact rNo) only [go_sem, seval]
end Go.Proofs.YtmcinfbckdiaoaaGreatDoor.Lv

set_option linter.unusedVariables false
set_option linter.unusedSimpArgs false
set_option maxRecDepth 100000
set_option maxHeartbeats 4000000
namespace Go.Proofs.YtmcinfbckdiaoaaGreatDoor.Lv
open Go Go.RowKit
/-- A product under way, with a limb of nought to spare. -/
def RmI (x y : List Nat) (i : Nat) (w : List Nat) : Prop := ∃ v, w = v ++ [0] ∧ MulI x y i v
def RmK (x y w : List Nat) (i : Nat) (s : Nat × Nat × List Nat) : Prop := ∃ v u, w = v ++ [0] ∧ s.2.2 = u ++ [0] ∧ MulK x y v i (s.1, s.2.1, u)
theorem app_get {u : List Nat} {j : Nat} (h : j < u.length) : (u ++ [0]).getD j 0 = u.getD j 0 := by
  rw [List.getD_eq_getElem?_getD, List.getElem?_append_left h, List.getD_eq_getElem?_getD]
theorem app_set {u : List Nat} {j d : Nat} (h : j < u.length) : (u ++ [0]).set j d = u.set j d ++ [0] := List.set_append_left _ _ h
theorem ref_MulNat {a b : Nat} (ha : nb a < 268435456) (hb : nb b < 268435456) : C E 119 [nD a, nD b] (nD (a * b)) := by
  refine CG_intro Tryz.func119 rfl (by kernel_rfl) rfl (by kernel_rfl) (by kernel_rfl) rfl ?_
  unfold nb at ha hb
  have va := val_limbs a
  have vb := val_limbs b
  have la := limbs_low a
  have lb := limbs_low b
  simp only [nD]
  generalize limbs a = l at *
  generalize limbs b = m at *
  subst va vb
  have e0 : ((l.length : Int) + (m.length : Int) + 1).toNat = l.length + m.length + 1 := by omega
  simp (maxSteps := 3000000) (disch := first | exact trivial | assumption | omega | exact rOk | exact rCl | exact rNo) only [go_sem, seval, u32s, e0]
  refine ⟨by omega, by omega, by omega, ?_⟩
  refine AL.of (fun s : Nat × List Nat => s.1 ≤ l.length ∧ RmI l m s.1 s.2) (fun s => l.length - s.1) (fun s => [(0, u32s l), (1, u32s m), (5, .sl 0 0 0 (l.length + m.length + 1)), (6, .int .i64 s.1)])
    (fun s => [(0, .row false 0 false 1 (l.length + m.length + 1) (lR s.2))]) (0, List.replicate (l.length + m.length + 1) 0) ⟨Nat.zero_le _, ⟨_, List.replicate_succ', MulI.zero l m⟩⟩ ?_ ?_ ?_ ?_
  · simp (maxSteps := 3000000) (disch := first | exact trivial | assumption | omega | exact rOk | exact rCl | exact rNo) only [go_sem, seval, u32s, e0]
  · simp (maxSteps := 3000000) (disch := first | exact trivial | assumption | omega | exact rOk | exact rCl | exact rNo) only [go_sem, seval, u32s, e0]
    try exact fun i hi => Le.of_eq (by unfold lR; rw [List.getD_eq_getElem?_getD, List.getElem?_replicate, if_pos hi]; rfl)
  · intro x _; simp (maxSteps := 3000000) (disch := first | exact trivial | assumption | omega | exact rOk | exact rCl | exact rNo) only [go_sem, seval]
  rintro ⟨i, w⟩ ⟨hil, v, hwv, hI⟩
  simp only at hil hwv hI
  subst hwv
  by_cases hi : i = l.length
  · subst hi
    obtain ⟨q1, q2⟩ := hI.fin
    have hlen := hI.1
    have hc := ref_trim (l := v ++ [0]) (lows_app q1 (fun x hx => by rw [List.mem_singleton.1 hx]; omega)) (by rw [List.length_append, List.length_singleton]; omega)
    have hv0 : val (v ++ [0]) = val l * val m := by rw [val_append, ← q2]; simp [val]
    rw [hv0] at hc
    clear hI q1 q2
    simp (maxSteps := 3000000) (disch := first | exact trivial | assumption | omega | exact rOk | exact rCl | exact rNo) only [go_sem, seval, u32s]
    refine callC hc ?_ rfl ?_
    · simp (maxSteps := 3000000) (disch := first | exact trivial | assumption | omega | exact rOk | exact rCl | exact rNo) only [go_sem, seval, u32s]
      exact LesV_rows (by first | omega | (rw [List.length_append, List.length_singleton]; omega)) fun j hj => rfl
    simp (maxSteps := 3000000) (disch := first | exact trivial | assumption | omega | exact rOk | exact rCl | exact rNo) only [go_sem, seval]
    try exact LeV.refl _
  · have hi' : i < l.length := by omega
    simp (maxSteps := 3000000) (disch := first | exact trivial | assumption | omega | exact rOk | exact rCl | exact rNo) only [go_sem, seval, u32s]
    refine AL.of (RmK l m (v ++ [0]) i) (fun s => m.length - s.1) (fun s => [(0, u32s l), (1, u32s m), (5, .sl 0 0 0 (l.length + m.length + 1)), (6, .int .i64 i), (7, .int .u64 s.2.1), (8, .int .i64 s.1)])
      (fun s => [(0, .row false 0 false 1 (l.length + m.length + 1) (lR s.2.2))]) (0, 0, v ++ [0]) ⟨v, v, rfl, rfl, MulK.zero hI⟩ ?_ ?_ ?_ ?_
    · simp (maxSteps := 3000000) (disch := first | exact trivial | assumption | omega | exact rOk | exact rCl | exact rNo) only [go_sem, seval, u32s]
    · simp (maxSteps := 3000000) (disch := first | exact trivial | assumption | omega | exact rOk | exact rCl | exact rNo) only [go_sem, seval, u32s]
      try exact fun _ _ => trivial
    · intro x _; simp (maxSteps := 3000000) (disch := first | exact trivial | assumption | omega | exact rOk | exact rCl | exact rNo) only [go_sem, seval]
    rintro ⟨k, c, w'⟩ ⟨v', u, hvv, hwu, hK⟩
    simp only at hwu
    subst hwu
    obtain rfl : v = v' := List.append_cancel_right hvv
    clear hvv
    have hn := hK.next la lb
    have hf := hK
    obtain ⟨h1, h2, h3, h4, h5, h6⟩ := hK
    simp only at h1 h2 h3 h4 h5 h6
    by_cases hk : k = m.length
    · subst hk
      have hn' := hf.fin hI hi'
      have e1 : ((i : Int) + (m.length : Int)).toNat = i + m.length := by omega
      have ew : IntKind.u32.wrap (c : Int) = (c : Int) := wrap_u32 (by omega)
      have hst := fun (j : Nat) => lR_set' (w := u ++ [0]) (i := i + m.length) (d := c) (j := j) (by rw [List.length_append, List.length_singleton]; omega)
      clear h5 h6 hf hn hI h4
      simp (maxSteps := 3000000) (disch := first | exact trivial | assumption | omega | exact rOk | exact rCl | exact rNo) only [go_sem, seval, u32s, e1, ew]
      refine ⟨(i + 1, u.set (i + m.length) c ++ [0]), ⟨hi', ⟨_, rfl, hn'⟩⟩, by show l.length - (i + 1) < l.length - i; omega, ?_, ?_⟩
      · simp (maxSteps := 3000000) (disch := first | exact trivial | assumption | omega | exact rOk | exact rCl | exact rNo) only [go_sem, seval, u32s]
        try exact LeV_int (by omega)
      · simp (maxSteps := 3000000) (disch := first | exact trivial | assumption | omega | exact rOk | exact rCl | exact rNo) only [go_sem, seval, u32s]
        exact fun j hj => Le.of_eq (by rw [← app_set (by omega)]; exact hst j)
    · have hk' : k < m.length := by omega
      have hn' := hn hi' hk'
      have e1 : ((i : Int) + (k : Int)).toNat = i + k := by omega
      have gx := la.getD i
      have gy := lb.getD k
      have gz := h4.getD (i + k)
      obtain ⟨w1, w2, w3, w4, w5⟩ := wr_mul h2 gx gy gz
      have hmb := (mul_bound h2 gx gy gz).2.2
      have hmk := bits_andM _ hmb
      have hmw : IntKind.u32.wrap (((c + (l.getD i 0 * m.getD k 0 + u.getD (i + k) 0)) % 4294967296 : Nat) : Int) = (((c + (l.getD i 0 * m.getD k 0 + u.getD (i + k) 0)) % 4294967296 : Nat) : Int) := wrap_u32 (by omega)
      have hget : lR (u ++ [0]) (i + k) = .int .u32 ((u.getD (i + k) 0 : Nat) : Int) := by rw [lR, app_get (by omega)]
      have hst := fun (d j : Nat) => lR_set' (w := u ++ [0]) (i := i + k) (d := d) (j := j) (by rw [List.length_append, List.length_singleton]; omega)
      clear h5 h6 hf hn hI h4
      simp (maxSteps := 3000000) (disch := first | exact trivial | assumption | omega | exact rOk | exact rCl | exact rNo) only [go_sem, seval, u32s, hget, e1, w1, w2, w3, hmk, hmw, w5]
      refine ⟨(k + 1, _, _), ⟨v, _, rfl, rfl, hn'⟩, by show m.length - (k + 1) < m.length - k; omega, ?_, ?_⟩
      · simp (maxSteps := 3000000) (disch := first | exact trivial | assumption | omega | exact rOk | exact rCl | exact rNo) only [go_sem, seval, u32s]
        try exact LeV_int (by omega)
      · simp (maxSteps := 3000000) (disch := first | exact trivial | assumption | omega | exact rOk | exact rCl | exact rNo) only [go_sem, seval, u32s]
        exact fun j hj => Le.of_eq (by rw [← app_set (by omega)]; exact hst _ j)
/-- A whole number of the document's. -/
def iD (z : Int) : D := .agg [.bool (decide (z < 0)), nD z.natAbs]
section
variable (z : Int) (h : Hp) (ρ : Nat → Option Nat) (r : Nat → Nat)
theorem cl_iD : cl (iD z) = true := Eq.trans rfl rfl
theorem flat_iD : flat (iD z) = false := Eq.trans rfl rfl
theorem imp_iD : imp ρ h (iD z) = iD z := Eq.trans rfl rfl
theorem refs_iD : refs ρ (iD z) = [] := Eq.trans rfl rfl
theorem asAgg_iD : asAgg (iD z) = some [.bool (decide (z < 0)), nD z.natAbs] := Eq.trans rfl rfl
theorem one_iD : one h (iD z) = false := Eq.trans rfl rfl
theorem ex_iD : exD r (iD z) = iD z := Eq.trans rfl rfl
end
attribute [go_sem] cl_iD flat_iD imp_iD refs_iD asAgg_iD one_iD ex_iD
theorem iD_mk (b : Bool) (n : Nat) : iD (mkZ b n) = .agg [.bool (b && decide (0 < n)), nD n] := by
  rw [iD, mkZ_abs, mkZ_neg]
theorem nb_pos {n : Nat} : 0 < nb n ↔ 0 < n := by
  constructor
  · intro h
    rcases Nat.eq_zero_or_pos n with h0 | h0
    · subst h0; unfold nb at h; rw [limbs_zero] at h; simp at h
    · exact h0
  · intro h; exact limbs_ne (by omega)
theorem ref_IntFrom (b : Bool) {n : Nat} (hn : nb n < 1073741824) : C E 149 [.bool b, nD n] (iD (mkZ b n)) := by
  refine CG_intro Tryz.func149 rfl (by kernel_rfl) rfl (by kernel_rfl) (by kernel_rfl) rfl ?_
  rw [iD_mk]
  have hp := nb_pos (n := n)
  have hlen : (limbs n).length = nb n := rfl
  cases b with
  | true =>
    by_cases h0 : 0 < n
    · have h1 := hp.2 h0
      rw [decide_eq_true h0]
      simp (maxSteps := 3000000) (disch := first | exact trivial | assumption | omega | exact rOk | exact rCl | exact rNo) only [go_sem, seval, nD, u32s, hlen]
    · have h1 : nb n = 0 := by omega
      rw [decide_eq_false h0]
      simp (maxSteps := 3000000) (disch := first | exact trivial | assumption | omega | exact rOk | exact rCl | exact rNo) only [go_sem, seval, nD, u32s, hlen, h1]
  | false =>
    simp (maxSteps := 3000000) (disch := first | exact trivial | assumption | omega | exact rOk | exact rCl | exact rNo) only [go_sem, seval, nD, u32s, hlen]
theorem ref_Sign {z : Int} (hz : zb z < 1073741824) : C E 147 [iD z] (.int .i64 (sgI z 0)) := by
  refine CG_intro Tryz.func147 rfl (by kernel_rfl) rfl (by kernel_rfl) (by kernel_rfl) rfl ?_
  have hp := nb_pos (n := z.natAbs)
  have hlen : (limbs z.natAbs).length = nb z.natAbs := rfl
  unfold zb at hz
  rcases (show z < 0 ∨ z = 0 ∨ 0 < z by omega) with h | h | h
  · have h1 : 0 < nb z.natAbs := hp.2 (by omega)
    have e : decide (z < 0) = true := decide_eq_true h
    rw [sgI_lt h]
    simp (maxSteps := 3000000) (disch := first | exact trivial | assumption | omega | exact rOk | exact rCl | exact rNo) only [go_sem, seval, nD, u32s, hlen, e]
  · subst h
    have h1 : nb (0 : Int).natAbs = 0 := by
      rcases Nat.eq_zero_or_pos (nb (0 : Int).natAbs) with h | h
      · exact h
      · have := hp.1 h; simp at this
    have hl0 : (limbs 0).length = 0 := by rw [limbs_zero]; rfl
    rw [sgI_eq]
    simp (maxSteps := 3000000) (disch := first | exact trivial | assumption | omega | exact rOk | exact rCl | exact rNo) only [go_sem, seval, nD, u32s, hlen, h1, hl0]
  · have h1 : 0 < nb z.natAbs := hp.2 (by omega)
    have e : decide (z < 0) = false := decide_eq_false (by omega)
    rw [sgI_gt h]
    simp (maxSteps := 3000000) (disch := first | exact trivial | assumption | omega | exact rOk | exact rCl | exact rNo) only [go_sem, seval, nD, u32s, hlen, e]
theorem mkZ_not (z : Int) : mkZ (!decide (z < 0)) z.natAbs = -z := by
  unfold mkZ
  by_cases h : z < 0
  · rw [decide_eq_true h]; simp; omega
  · rw [decide_eq_false h]; simp; omega
theorem ref_NegInt {z : Int} (hz : zb z < 1073741824) : C E 154 [iD z] (iD (-z)) := by
  refine CG_intro Tryz.func154 rfl (by kernel_rfl) rfl (by kernel_rfl) (by kernel_rfl) rfl ?_
  have hf := ref_IntFrom (!decide (z < 0)) (n := z.natAbs) hz
  rw [mkZ_not] at hf
  simp (maxSteps := 3000000) (disch := first | exact trivial | assumption | omega | exact rOk | exact rCl | exact rNo) only [go_sem, seval]
  refine callC hf ?_ rfl ?_
  · simp (maxSteps := 3000000) (disch := first | exact trivial | assumption | omega | exact rOk | exact rCl | exact rNo) only [go_sem, seval]
  simp (maxSteps := 3000000) (disch := first | exact trivial | assumption | omega | exact rOk | exact rCl | exact rNo) only [go_sem, seval]
theorem ref_MulInt {a b : Int} (ha : zb a < 250000000) (hb : zb b < 250000000) : C E 103 [iD a, iD b] (iD (a * b)) := by
  refine CG_intro Tryz.func103 rfl (by kernel_rfl) rfl (by kernel_rfl) (by kernel_rfl) rfl ?_
  have hm := nb_mul a.natAbs b.natAbs
  unfold zb at ha hb
  have hf := ref_IntFrom (!(decide (a < 0) == decide (b < 0))) (n := a.natAbs * b.natAbs) (by omega)
  rw [mkZ_mul] at hf
  simp (maxSteps := 3000000) (disch := first | exact trivial | assumption | omega | exact rOk | exact rCl | exact rNo) only [go_sem, seval]
  refine callCl (ref_MulNat (a := a.natAbs) (b := b.natAbs) (by omega) (by omega)) ?_ rfl ?_
  · simp (maxSteps := 3000000) (disch := first | exact trivial | assumption | omega | exact rOk | exact rCl | exact rNo) only [go_sem, seval]
  simp (maxSteps := 3000000) (disch := first | exact trivial | assumption | omega | exact rOk | exact rCl | exact rNo) only [go_sem, seval]
  refine callCl hf ?_ rfl ?_
  · simp (maxSteps := 3000000) (disch := first | exact trivial | assumption | omega | exact rOk | exact rCl | exact rNo) only [go_sem, seval]
  simp (maxSteps := 3000000) (disch := first | exact trivial | assumption | omega | exact rOk | exact rCl | exact rNo) only [go_sem, seval]
theorem sgI_ge0 (a b : Nat) : decide (sgI (a : Int) (b : Int) ≥ 0) = decide (b ≤ a) := by
  rcases (show a < b ∨ a = b ∨ b < a by omega) with h | h | h
  · rw [sgI_lt (by omega), decide_eq_false (show ¬ b ≤ a by omega)]; rfl
  · rw [h, sgI_eq, decide_eq_true (Nat.le_refl b)]; rfl
  · rw [sgI_gt (by omega), decide_eq_true (show b ≤ a by omega)]; rfl
theorem ref_AddInt {a b : Int} (ha : zb a < 500000000) (hb : zb b < 500000000) : C E 118 [iD a, iD b] (iD (a + b)) := by
  refine CG_intro Tryz.func118 rfl (by kernel_rfl) rfl (by kernel_rfl) (by kernel_rfl) rfl ?_
  have hm := nb_add a.natAbs b.natAbs
  unfold zb at ha hb
  by_cases hs : decide (a < 0) = decide (b < 0)
  · have e : mkZ (decide (a < 0)) (a.natAbs + b.natAbs) = a + b := by
      unfold mkZ
      by_cases h1 : a < 0
      · have h2 : b < 0 := by simpa [h1] using hs
        simp [h1]; omega
      · have h2 : ¬ b < 0 := by simpa [h1] using hs
        simp [h1]; omega
    have hf := ref_IntFrom (decide (a < 0)) (n := a.natAbs + b.natAbs) (by omega)
    rw [e] at hf
    have hq : (decide (a < 0) == decide (b < 0)) = true := by rw [hs]; simp
    simp (maxSteps := 3000000) (disch := first | exact trivial | assumption | omega | exact rOk | exact rCl | exact rNo) only [go_sem, seval, hq]
    refine callCl (ref_AddNat (a := a.natAbs) (b := b.natAbs) (by omega) (by omega)) ?_ rfl ?_
    · simp (maxSteps := 3000000) (disch := first | exact trivial | assumption | omega | exact rOk | exact rCl | exact rNo) only [go_sem, seval]
    simp (maxSteps := 3000000) (disch := first | exact trivial | assumption | omega | exact rOk | exact rCl | exact rNo) only [go_sem, seval]
    refine callCl hf ?_ rfl ?_
    · simp (maxSteps := 3000000) (disch := first | exact trivial | assumption | omega | exact rOk | exact rCl | exact rNo) only [go_sem, seval]
    simp (maxSteps := 3000000) (disch := first | exact trivial | assumption | omega | exact rOk | exact rCl | exact rNo) only [go_sem, seval]
  · have hq : (decide (a < 0) == decide (b < 0)) = false := by simpa using hs
    have hor : (a < 0 ∧ ¬ b < 0) ∨ (¬ a < 0 ∧ b < 0) := by
      by_cases h1 : a < 0 <;> by_cases h2 : b < 0 <;> simp_all
    have hge := sgI_ge0 a.natAbs b.natAbs
    simp (maxSteps := 3000000) (disch := first | exact trivial | assumption | omega | exact rOk | exact rCl | exact rNo) only [go_sem, seval, hq]
    refine callC (ref_CmpNat (a := a.natAbs) (b := b.natAbs) (by omega) (by omega)) ?_ rfl ?_
    · simp (maxSteps := 3000000) (disch := first | exact trivial | assumption | omega | exact rOk | exact rCl | exact rNo) only [go_sem, seval]
    by_cases hle : b.natAbs ≤ a.natAbs
    · have e : mkZ (decide (a < 0)) (a.natAbs - b.natAbs) = a + b := by
        unfold mkZ
        by_cases h1 : a < 0 <;> simp [h1] <;> omega
      have hd : nb (a.natAbs - b.natAbs) ≤ nb a.natAbs := nb_mono (Nat.sub_le _ _)
      have hf := ref_IntFrom (decide (a < 0)) (n := a.natAbs - b.natAbs) (by omega)
      rw [e] at hf
      rw [decide_eq_true hle] at hge
      simp (maxSteps := 3000000) (disch := first | exact trivial | assumption | omega | exact rOk | exact rCl | exact rNo) only [go_sem, seval, hge]
      refine callCl (ref_SubNat (a := a.natAbs) (b := b.natAbs) (by omega) (by omega) hle) ?_ rfl ?_
      · simp (maxSteps := 3000000) (disch := first | exact trivial | assumption | omega | exact rOk | exact rCl | exact rNo) only [go_sem, seval]
      simp (maxSteps := 3000000) (disch := first | exact trivial | assumption | omega | exact rOk | exact rCl | exact rNo) only [go_sem, seval]
      refine callCl hf ?_ rfl ?_
      · simp (maxSteps := 3000000) (disch := first | exact trivial | assumption | omega | exact rOk | exact rCl | exact rNo) only [go_sem, seval]
      simp (maxSteps := 3000000) (disch := first | exact trivial | assumption | omega | exact rOk | exact rCl | exact rNo) only [go_sem, seval]
    · have e : mkZ (decide (b < 0)) (b.natAbs - a.natAbs) = a + b := by
        unfold mkZ
        by_cases h1 : b < 0 <;> simp [h1] <;> omega
      have hd : nb (b.natAbs - a.natAbs) ≤ nb b.natAbs := nb_mono (Nat.sub_le _ _)
      have hf := ref_IntFrom (decide (b < 0)) (n := b.natAbs - a.natAbs) (by omega)
      rw [e] at hf
      rw [decide_eq_false hle] at hge
      simp (maxSteps := 3000000) (disch := first | exact trivial | assumption | omega | exact rOk | exact rCl | exact rNo) only [go_sem, seval, hge]
      refine callCl (ref_SubNat (a := b.natAbs) (b := a.natAbs) (by omega) (by omega) (by omega)) ?_ rfl ?_
      · simp (maxSteps := 3000000) (disch := first | exact trivial | assumption | omega | exact rOk | exact rCl | exact rNo) only [go_sem, seval]
      simp (maxSteps := 3000000) (disch := first | exact trivial | assumption | omega | exact rOk | exact rCl | exact rNo) only [go_sem, seval]
      refine callCl hf ?_ rfl ?_
      · simp (maxSteps := 3000000) (disch := first | exact trivial | assumption | omega | exact rOk | exact rCl | exact rNo) only [go_sem, seval]
      simp (maxSteps := 3000000) (disch := first | exact trivial | assumption | omega | exact rOk | exact rCl | exact rNo) only [go_sem, seval]
theorem ref_SubInt {a b : Int} (ha : zb a < 500000000) (hb : zb b < 500000000) : C E 148 [iD a, iD b] (iD (a - b)) := by
  refine CG_intro Tryz.func148 rfl (by kernel_rfl) rfl (by kernel_rfl) (by kernel_rfl) rfl ?_
  have hA := ref_AddInt (a := a) (b := -b) ha (by rw [zb_neg]; exact hb)
  rw [← Int.sub_eq_add_neg] at hA
  simp (maxSteps := 3000000) (disch := first | exact trivial | assumption | omega | exact rOk | exact rCl | exact rNo) only [go_sem, seval]
  refine callCl (ref_NegInt (z := b) (by omega)) ?_ rfl ?_
  · simp (maxSteps := 3000000) (disch := first | exact trivial | assumption | omega | exact rOk | exact rCl | exact rNo) only [go_sem, seval]
  simp (maxSteps := 3000000) (disch := first | exact trivial | assumption | omega | exact rOk | exact rCl | exact rNo) only [go_sem, seval]
  refine callCl hA ?_ rfl ?_
  · simp (maxSteps := 3000000) (disch := first | exact trivial | assumption | omega | exact rOk | exact rCl | exact rNo) only [go_sem, seval]
  simp (maxSteps := 3000000) (disch := first | exact trivial | assumption | omega | exact rOk | exact rCl | exact rNo) only [go_sem, seval]
theorem ref_CmpInt {a b : Int} (ha : zb a < 500000000) (hb : zb b < 500000000) : C E 102 [iD a, iD b] (.int .i64 (sgI a b)) := by
  refine CG_intro Tryz.func102 rfl (by kernel_rfl) rfl (by kernel_rfl) (by kernel_rfl) rfl ?_
  have h1 := zb_add a (-b)
  rw [zb_neg, ← Int.sub_eq_add_neg] at h1
  have e : sgI (a - b) 0 = sgI a b := sgI_congr (by omega) (by omega)
  simp (maxSteps := 3000000) (disch := first | exact trivial | assumption | omega | exact rOk | exact rCl | exact rNo) only [go_sem, seval]
  refine callC (ref_SubInt ha hb) ?_ rfl ?_
  · simp (maxSteps := 3000000) (disch := first | exact trivial | assumption | omega | exact rOk | exact rCl | exact rNo) only [go_sem, seval]
  simp (maxSteps := 3000000) (disch := first | exact trivial | assumption | omega | exact rOk | exact rCl | exact rNo) only [go_sem, seval]
  refine callC (ref_Sign (z := a - b) (by omega)) ?_ rfl ?_
  · simp (maxSteps := 3000000) (disch := first | exact trivial | assumption | omega | exact rOk | exact rCl | exact rNo) only [go_sem, seval]
  rw [e]
  simp (maxSteps := 3000000) (disch := first | exact trivial | assumption | omega | exact rOk | exact rCl | exact rNo) only [go_sem, seval]
end Go.Proofs.YtmcinfbckdiaoaaGreatDoor.Lv
