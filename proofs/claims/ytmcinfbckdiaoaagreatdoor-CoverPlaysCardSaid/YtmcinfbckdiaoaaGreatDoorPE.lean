/- The program's numbers: Add, Sub. -/
import Derived.Test.YtmcinfbckdiaoaaGreatDoorPH
set_option linter.unusedVariables false
set_option linter.unusedSimpArgs false
set_option maxRecDepth 100000
set_option maxHeartbeats 4000000
namespace Go.Proofs.YtmcinfbckdiaoaaGreatDoor.Lv
open Go Go.RowKit

/-- A sum, limb by limb. -/
theorem sum_step {w x y : List Nat} {i c d c' : Nat} (hi : i < w.length) (hinv : val (w.take i) + 4294967296 ^ i * c = val (x.take i) + val (y.take i)) (hs : d + 4294967296 * c' = c + x.getD i 0 + y.getD i 0) :
    val ((w.set i d).take (i + 1)) + 4294967296 ^ (i + 1) * c' = val (x.take (i + 1)) + val (y.take (i + 1)) := by
  rw [set_take_val hi, val_take_succ x, val_take_succ y, Nat.pow_succ]
  have h2 : 4294967296 ^ i * (d + 4294967296 * c') = 4294967296 ^ i * (c + x.getD i 0 + y.getD i 0) := by rw [hs]
  generalize 4294967296 ^ i = p at *
  rw [Nat.mul_assoc]
  rw [Nat.mul_add, Nat.mul_add, Nat.mul_add] at h2
  generalize p * (4294967296 * c') = m3 at *
  generalize p * c = m4 at *
  generalize p * x.getD i 0 = m5 at *
  generalize p * y.getD i 0 = m7 at *
  generalize p * d = m6 at *
  omega
theorem dif_step {w x y : List Nat} {i c d c' : Nat} (hi : i < w.length) (hinv : val (w.take i) + val (y.take i) = val (x.take i) + 4294967296 ^ i * c) (hs : d + y.getD i 0 + c = x.getD i 0 + 4294967296 * c') :
    val ((w.set i d).take (i + 1)) + val (y.take (i + 1)) = val (x.take (i + 1)) + 4294967296 ^ (i + 1) * c' := by
  rw [set_take_val hi, val_take_succ x, val_take_succ y, Nat.pow_succ]
  have h2 : 4294967296 ^ i * (d + y.getD i 0 + c) = 4294967296 ^ i * (x.getD i 0 + 4294967296 * c') := by rw [hs]
  generalize 4294967296 ^ i = p at *
  rw [Nat.mul_assoc]
  rw [Nat.mul_add, Nat.mul_add, Nat.mul_add] at h2
  generalize p * (4294967296 * c') = m3 at *
  generalize p * c = m4 at *
  generalize p * x.getD i 0 = m5 at *
  generalize p * y.getD i 0 = m7 at *
  generalize p * d = m6 at *
  omega
theorem getD_out' {l : List Nat} {i : Nat} (h : l.length ≤ i) : l.getD i 0 = 0 := by
  rw [List.getD_eq_getElem?_getD, List.getElem?_eq_none h]; rfl
/-- What adding does: x is not the shorter one. -/
def SumP (x y : List Nat) (s : Nat × Nat × List Nat) : Prop := s.1 ≤ x.length ∧ s.2.1 ≤ 1 ∧ s.2.2.length = x.length + 1 ∧ lows s.2.2 ∧ val (s.2.2.take s.1) + 4294967296 ^ s.1 * s.2.1 = val (x.take s.1) + val (y.take s.1)
theorem SumP.next {x y : List Nat} (hx : lows x) (hy : lows y) {i c : Nat} {w : List Nat} (h : SumP x y (i, c, w)) (hi : i < x.length) :
    SumP x y (i + 1, (c + x.getD i 0 + y.getD i 0) / 4294967296, w.set i ((c + x.getD i 0 + y.getD i 0) % 4294967296)) := by
  obtain ⟨h1, h2, h3, h4, h5⟩ := h
  simp only at h1 h2 h3 h4 h5
  have g1 := hx.getD i
  have g2 := hy.getD i
  have hstep := sum_step (w := w) (d := (c + x.getD i 0 + y.getD i 0) % 4294967296) (c' := (c + x.getD i 0 + y.getD i 0) / 4294967296) (by omega) h5 (by omega)
  clear h5
  have hc : (c + x.getD i 0 + y.getD i 0) / 4294967296 ≤ 1 := by omega
  exact ⟨hi, hc, by simp only [List.length_set]; exact h3, lows_set h4 (by omega), hstep⟩
theorem SumP.fin {x y : List Nat} (hle : y.length ≤ x.length) {c : Nat} {w : List Nat} (h : SumP x y (x.length, c, w)) : lows (w.set x.length c) ∧ val (w.set x.length c) = val x + val y := by
  obtain ⟨h1, h2, h3, h4, h5⟩ := h
  simp only at h1 h2 h3 h4 h5
  refine ⟨lows_set h4 (by omega), ?_⟩
  have : val (w.set x.length c) = val ((w.set x.length c).take (x.length + 1)) := by rw [List.take_of_length_le (by simp; omega)]
  rw [this, set_take_val (by omega), h5, List.take_of_length_le (Nat.le_refl _), List.take_of_length_le hle]
theorem u32_add3 (c x y : Nat) : IntKind.u32.wrap ((c : Int) + (x : Int) + (y : Int)) = (((c + x + y) % 4294967296 : Nat) : Int) := by rw [wrap_u32']; omega
theorem u32_add2 (c x : Nat) : IntKind.u32.wrap ((c : Int) + (x : Int)) = (((c + x) % 4294967296 : Nat) : Int) := by rw [wrap_u32']; omega
theorem div_add3 (c x y : Nat) : ((c : Int) + (x : Int) + (y : Int)) / 4294967296 = (((c + x + y) / 4294967296 : Nat) : Int) := by omega
theorem div_add2 (c x : Nat) : ((c : Int) + (x : Int)) / 4294967296 = (((c + x) / 4294967296 : Nat) : Int) := by omega
theorem nat_Add {a b : Nat} (ha : nb a < 536870912) (hb : nb b < 536870912) : C E 96 [natD a, natD b] (natD (a + b)) := by
  refine CG_intro Tryz.func96 rfl (by kernel_rfl) rfl (by kernel_rfl) (by kernel_rfl) rfl ?_
  unfold nb at ha hb
  have va := val_limbs a
  have vb := val_limbs b
  have la := limbs_low a
  have lb := limbs_low b
  simp only [natD]
  generalize limbs a = l at *
  generalize limbs b = m at *
  subst va vb
  simp (maxSteps := 3000000) (disch := first | exact trivial | assumption | omega | exact rOk | exact rCl | exact rNo) only [go_sem, seval, natD, u32s]
  by_cases hlen : l.length < m.length
  · have e0 : ((m.length : Int) + 1).toNat = m.length + 1 := by omega
    simp (maxSteps := 3000000) (disch := first | exact trivial | assumption | omega | exact rOk | exact rCl | exact rNo) only [go_sem, seval, natD, u32s, e0]
    refine ⟨by omega, by omega, by omega, ?_⟩
    refine AL.of (SumP m l) (fun s => m.length - s.1) (fun s => [(2, .ad 0 0), (3, .ad 1 0), (4, .ad 2 0), (5, .sl 3 0 0 (m.length + 1)), (6, .int .u64 s.2.1), (24, u32s m), (25, .int .i64 m.length), (26, .int .i64 s.1)])
      (fun s => [(3, .row false 0 false 1 (m.length + 1) (lR s.2.2)), (2, .var true 1 (.agg [.nils])), (1, .var true 1 (.agg [u32s l])), (0, .var true 1 (.agg [u32s m]))]) (0, 0, List.replicate (m.length + 1) 0) ⟨by simp, by simp, by simp, lows_rep _, by simp [val]⟩ ?_ ?_ ?_ ?_
    · simp (maxSteps := 3000000) (disch := first | exact trivial | assumption | omega | exact rOk | exact rCl | exact rNo) only [go_sem, seval, u32s, e0]
    · simp (maxSteps := 3000000) (disch := first | exact trivial | assumption | omega | exact rOk | exact rCl | exact rNo) only [go_sem, seval, u32s, e0]
      try exact fun i hi => Le.of_eq (by unfold lR; rw [List.getD_eq_getElem?_getD, List.getElem?_replicate, if_pos hi]; rfl)
    · intro x _; simp (maxSteps := 3000000) (disch := first | exact trivial | assumption | omega | exact rOk | exact rCl | exact rNo) only [go_sem, seval]
    rintro ⟨i, c, w⟩ hP
    have hn := hP.next lb la
    have hf := hP
    obtain ⟨h1, h2, h3, h4, h5⟩ := hP
    simp only at h1 h2 h3 h4 h5
    have g1 := lb.getD i
    have g2 := la.getD i
    by_cases hi : i = m.length
    · subst hi
      obtain ⟨q1, q2⟩ := hf.fin (by omega)
      have ew : IntKind.u32.wrap (c : Int) = (c : Int) := wrap_u32 (by omega)
      have hc := nat_cut q1 (by simp; omega)
      rw [q2, Nat.add_comm (val m) (val l)] at hc
      clear h5 hf hn h4
      simp (maxSteps := 3000000) (disch := first | exact trivial | assumption | omega | exact rOk | exact rCl | exact rNo) only [go_sem, seval, u32s, ew]
      refine callC hc ?_ rfl ?_
      · simp (maxSteps := 3000000) (disch := first | exact trivial | assumption | omega | exact rOk | exact rCl | exact rNo) only [go_sem, seval, u32s]
        exact LesV_rows (by simp; omega) fun j hj => lR_set' (by omega)
      simp (maxSteps := 3000000) (disch := first | exact trivial | assumption | omega | exact rOk | exact rCl | exact rNo) only [go_sem, seval]
      try exact LeV.refl _
    · have hi' : i < m.length := by omega
      have hn' := hn hi'
      clear hn hf h5 h4 h1
      by_cases hj : i < l.length
      · simp (maxSteps := 3000000) (disch := first | exact trivial | assumption | omega | exact rOk | exact rCl | exact rNo) only [go_sem, seval, u32s, lR, u32_add3, div_add3]
        refine ⟨_, hn', by show m.length - (i + 1) < m.length - i; omega, ?_, ?_⟩
        · simp (maxSteps := 3000000) (disch := first | exact trivial | assumption | omega | exact rOk | exact rCl | exact rNo) only [go_sem, seval, u32s]
          try exact LeV.of_eq (by rw [Int.natCast_succ])
        · simp (maxSteps := 3000000) (disch := first | exact trivial | assumption | omega | exact rOk | exact rCl | exact rNo) only [go_sem, seval, u32s]
          exact fun j hj => Le.of_eq (lR_set' (by omega))
      · have hy0 := getD_out' (l := l) (i := i) (by omega)
        rw [hy0, Nat.add_zero] at hn'
        simp (maxSteps := 3000000) (disch := first | exact trivial | assumption | omega | exact rOk | exact rCl | exact rNo) only [go_sem, seval, u32s, lR, u32_add2, div_add2]
        refine ⟨_, hn', by show m.length - (i + 1) < m.length - i; omega, ?_, ?_⟩
        · simp (maxSteps := 3000000) (disch := first | exact trivial | assumption | omega | exact rOk | exact rCl | exact rNo) only [go_sem, seval, u32s]
          try exact LeV.of_eq (by rw [Int.natCast_succ])
        · simp (maxSteps := 3000000) (disch := first | exact trivial | assumption | omega | exact rOk | exact rCl | exact rNo) only [go_sem, seval, u32s]
          exact fun j hj => Le.of_eq (lR_set' (by omega))
  · have e0 : ((l.length : Int) + 1).toNat = l.length + 1 := by omega
    simp (maxSteps := 3000000) (disch := first | exact trivial | assumption | omega | exact rOk | exact rCl | exact rNo) only [go_sem, seval, natD, u32s, e0]
    refine ⟨by omega, by omega, by omega, ?_⟩
    refine AL.of (SumP l m) (fun s => l.length - s.1) (fun s => [(2, .ad 0 0), (3, .ad 1 0), (4, .ad 2 0), (5, .sl 3 0 0 (l.length + 1)), (6, .int .u64 s.2.1), (24, u32s l), (25, .int .i64 l.length), (26, .int .i64 s.1)])
      (fun s => [(3, .row false 0 false 1 (l.length + 1) (lR s.2.2)), (2, .var true 1 (.agg [.nils])), (1, .var true 1 (.agg [u32s m])), (0, .var true 1 (.agg [u32s l]))]) (0, 0, List.replicate (l.length + 1) 0) ⟨by simp, by simp, by simp, lows_rep _, by simp [val]⟩ ?_ ?_ ?_ ?_
    · simp (maxSteps := 3000000) (disch := first | exact trivial | assumption | omega | exact rOk | exact rCl | exact rNo) only [go_sem, seval, u32s, e0]
    · simp (maxSteps := 3000000) (disch := first | exact trivial | assumption | omega | exact rOk | exact rCl | exact rNo) only [go_sem, seval, u32s, e0]
      try exact fun i hi => Le.of_eq (by unfold lR; rw [List.getD_eq_getElem?_getD, List.getElem?_replicate, if_pos hi]; rfl)
    · intro x _; simp (maxSteps := 3000000) (disch := first | exact trivial | assumption | omega | exact rOk | exact rCl | exact rNo) only [go_sem, seval]
    rintro ⟨i, c, w⟩ hP
    have hn := hP.next la lb
    have hf := hP
    obtain ⟨h1, h2, h3, h4, h5⟩ := hP
    simp only at h1 h2 h3 h4 h5
    have g1 := la.getD i
    have g2 := lb.getD i
    by_cases hi : i = l.length
    · subst hi
      obtain ⟨q1, q2⟩ := hf.fin (by omega)
      have ew : IntKind.u32.wrap (c : Int) = (c : Int) := wrap_u32 (by omega)
      have hc := nat_cut q1 (by simp; omega)
      rw [q2] at hc
      clear h5 hf hn h4
      simp (maxSteps := 3000000) (disch := first | exact trivial | assumption | omega | exact rOk | exact rCl | exact rNo) only [go_sem, seval, u32s, ew]
      refine callC hc ?_ rfl ?_
      · simp (maxSteps := 3000000) (disch := first | exact trivial | assumption | omega | exact rOk | exact rCl | exact rNo) only [go_sem, seval, u32s]
        exact LesV_rows (by simp; omega) fun j hj => lR_set' (by omega)
      simp (maxSteps := 3000000) (disch := first | exact trivial | assumption | omega | exact rOk | exact rCl | exact rNo) only [go_sem, seval]
      try exact LeV.refl _
    · have hi' : i < l.length := by omega
      have hn' := hn hi'
      clear hn hf h5 h4 h1
      by_cases hj : i < m.length
      · simp (maxSteps := 3000000) (disch := first | exact trivial | assumption | omega | exact rOk | exact rCl | exact rNo) only [go_sem, seval, u32s, lR, u32_add3, div_add3]
        refine ⟨_, hn', by show l.length - (i + 1) < l.length - i; omega, ?_, ?_⟩
        · simp (maxSteps := 3000000) (disch := first | exact trivial | assumption | omega | exact rOk | exact rCl | exact rNo) only [go_sem, seval, u32s]
          try exact LeV.of_eq (by rw [Int.natCast_succ])
        · simp (maxSteps := 3000000) (disch := first | exact trivial | assumption | omega | exact rOk | exact rCl | exact rNo) only [go_sem, seval, u32s]
          exact fun j hj => Le.of_eq (lR_set' (by omega))
      · have hy0 := getD_out' (l := m) (i := i) (by omega)
        rw [hy0, Nat.add_zero] at hn'
        simp (maxSteps := 3000000) (disch := first | exact trivial | assumption | omega | exact rOk | exact rCl | exact rNo) only [go_sem, seval, u32s, lR, u32_add2, div_add2]
        refine ⟨_, hn', by show l.length - (i + 1) < l.length - i; omega, ?_, ?_⟩
        · simp (maxSteps := 3000000) (disch := first | exact trivial | assumption | omega | exact rOk | exact rCl | exact rNo) only [go_sem, seval, u32s]
          try exact LeV.of_eq (by rw [Int.natCast_succ])
        · simp (maxSteps := 3000000) (disch := first | exact trivial | assumption | omega | exact rOk | exact rCl | exact rNo) only [go_sem, seval, u32s]
          exact fun j hj => Le.of_eq (lR_set' (by omega))
end Go.Proofs.YtmcinfbckdiaoaaGreatDoor.Lv
