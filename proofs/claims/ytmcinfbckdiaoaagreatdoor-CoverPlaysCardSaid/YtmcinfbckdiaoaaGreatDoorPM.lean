/- The program's numbers: Mul. -/
import Derived.Test.YtmcinfbckdiaoaaGreatDoorPE
import Derived.Test.YtmcinfbckdiaoaaGreatDoorNm
set_option linter.unusedVariables false
set_option linter.unusedSimpArgs false
set_option maxRecDepth 100000
set_option maxHeartbeats 4000000
namespace Go.Proofs.YtmcinfbckdiaoaaGreatDoor.Lv
open Go Go.RowKit
theorem nat_Mul {a b : Nat} (ha : nb a < 536870912) (hb : nb b < 536870912) : C E 60 [natD a, natD b] (natD (a * b)) := by
  refine CG_intro Tryz.func60 rfl (by kernel_rfl) rfl (by kernel_rfl) (by kernel_rfl) rfl ?_
  unfold nb at ha hb
  have va := val_limbs a
  have vb := val_limbs b
  have la := limbs_low a
  have lb := limbs_low b
  simp only [natD]
  generalize limbs a = l at *
  generalize limbs b = m at *
  subst va vb
  have e0 : ((l.length : Int) + (m.length : Int)).toNat = l.length + m.length := by omega
  simp (maxSteps := 3000000) (disch := first | exact trivial | assumption | omega | exact rOk | exact rCl | exact rNo) only [go_sem, seval, natD, u32s, e0]
  refine ⟨by omega, by omega, by omega, ?_⟩
  refine AL.of (fun s : Nat × List Nat => s.1 ≤ l.length ∧ MulI l m s.1 s.2) (fun s => l.length - s.1) (fun s => [(2, .ad 0 0), (3, .ad 1 0), (4, .ad 2 0), (5, .sl 3 0 0 (l.length + m.length)), (20, u32s l), (21, .int .i64 l.length), (22, .int .i64 s.1)])
    (fun s => [(3, .row false 0 false 1 (l.length + m.length) (lR s.2)), (2, .var true 1 (.agg [.nils])), (1, .var true 1 (.agg [u32s m])), (0, .var true 1 (.agg [u32s l]))]) (0, List.replicate (l.length + m.length) 0) ⟨Nat.zero_le _, MulI.zero l m⟩ ?_ ?_ ?_ ?_
  · simp (maxSteps := 3000000) (disch := first | exact trivial | assumption | omega | exact rOk | exact rCl | exact rNo) only [go_sem, seval, u32s, e0]
  · simp (maxSteps := 3000000) (disch := first | exact trivial | assumption | omega | exact rOk | exact rCl | exact rNo) only [go_sem, seval, u32s, e0]
    try exact fun i hi => Le.of_eq (by unfold lR; rw [List.getD_eq_getElem?_getD, List.getElem?_replicate, if_pos hi]; rfl)
  · intro x _; simp (maxSteps := 3000000) (disch := first | exact trivial | assumption | omega | exact rOk | exact rCl | exact rNo) only [go_sem, seval]
  rintro ⟨i, w⟩ ⟨hil, hI⟩
  simp only at hil hI
  by_cases hi : i = l.length
  · subst hi
    obtain ⟨q1, q2⟩ := hI.fin
    have hlen := hI.1
    have hc := nat_cut q1 (by omega)
    rw [q2] at hc
    clear hI q1 q2
    simp (maxSteps := 3000000) (disch := first | exact trivial | assumption | omega | exact rOk | exact rCl | exact rNo) only [go_sem, seval, u32s]
    refine callC hc ?_ rfl ?_
    · simp (maxSteps := 3000000) (disch := first | exact trivial | assumption | omega | exact rOk | exact rCl | exact rNo) only [go_sem, seval, u32s]
      exact LesV_rows (by omega) fun j hj => rfl
    simp (maxSteps := 3000000) (disch := first | exact trivial | assumption | omega | exact rOk | exact rCl | exact rNo) only [go_sem, seval]
    try exact LeV.refl _
  · have hi' : i < l.length := by omega
    simp (maxSteps := 3000000) (disch := first | exact trivial | assumption | omega | exact rOk | exact rCl | exact rNo) only [go_sem, seval, u32s, lR]
    refine AL.of (MulK l m w i) (fun s => m.length - s.1) (fun s => [(2, .ad 0 0), (3, .ad 1 0), (4, .ad 2 0), (5, .sl 3 0 0 (l.length + m.length)), (20, u32s l), (21, .int .i64 l.length), (22, .int .i64 i), (6, .int .i64 i), (7, .int .u32 ((l.getD i 0 : Nat) : Int)), (8, .int .u64 s.2.1), (28, u32s m), (29, .int .i64 m.length), (30, .int .i64 s.1)])
      (fun s => [(3, .row false 0 false 1 (l.length + m.length) (lR s.2.2)), (2, .var true 1 (.agg [.nils])), (1, .var true 1 (.agg [u32s m])), (0, .var true 1 (.agg [u32s l]))]) (0, 0, w) (MulK.zero hI) ?_ ?_ ?_ ?_
    · simp (maxSteps := 3000000) (disch := first | exact trivial | assumption | omega | exact rOk | exact rCl | exact rNo) only [go_sem, seval, u32s]
    · simp (maxSteps := 3000000) (disch := first | exact trivial | assumption | omega | exact rOk | exact rCl | exact rNo) only [go_sem, seval, u32s]
      try exact fun _ _ => trivial
    · intro x _; simp (maxSteps := 3000000) (disch := first | exact trivial | assumption | omega | exact rOk | exact rCl | exact rNo) only [go_sem, seval]
    rintro ⟨k, c, w'⟩ hK
    have hn := hK.next la lb
    have hf := hK
    obtain ⟨h1, h2, h3, h4, h5, h6⟩ := hK
    simp only at h1 h2 h3 h4 h5 h6
    by_cases hk : k = m.length
    · subst hk
      have hn' := hf.fin hI hi'
      have e1 : ((i : Int) + (m.length : Int)).toNat = i + m.length := by omega
      have ew : IntKind.u32.wrap (c : Int) = (c : Int) := wrap_u32 (by omega)
      clear h5 h6 hf hn hI h4
      simp (maxSteps := 3000000) (disch := first | exact trivial | assumption | omega | exact rOk | exact rCl | exact rNo) only [go_sem, seval, u32s, e1, ew]
      refine ⟨(i + 1, _), ⟨hi', hn'⟩, by show l.length - (i + 1) < l.length - i; omega, ?_, ?_⟩
      · simp (maxSteps := 3000000) (disch := first | exact trivial | assumption | omega | exact rOk | exact rCl | exact rNo) only [go_sem, seval, u32s]
        try exact LeV.of_eq (by rw [Int.natCast_succ])
      · simp (maxSteps := 3000000) (disch := first | exact trivial | assumption | omega | exact rOk | exact rCl | exact rNo) only [go_sem, seval, u32s]
        exact fun j hj => Le.of_eq (lR_set' (by omega))
    · have hk' : k < m.length := by omega
      have hn' := hn hi' hk'
      have e1 : ((i : Int) + (k : Int)).toNat = i + k := by omega
      obtain ⟨w1, w2, w3, w4, w5⟩ := wr_mul h2 (la.getD i) (lb.getD k) (h4.getD (i + k))
      have gx := la.getD i
      have gy := lb.getD k
      have gz := h4.getD (i + k)
      clear h5 h6 hf hn hI h4
      simp (maxSteps := 3000000) (disch := first | exact trivial | assumption | omega | exact rOk | exact rCl | exact rNo) only [go_sem, seval, u32s, lR, e1, w1, w2, w3, w4, w5]
      refine ⟨_, hn', by show m.length - (k + 1) < m.length - k; omega, ?_, ?_⟩
      · simp (maxSteps := 3000000) (disch := first | exact trivial | assumption | omega | exact rOk | exact rCl | exact rNo) only [go_sem, seval, u32s]
        try exact LeV.of_eq (by rw [Int.natCast_succ])
      · simp (maxSteps := 3000000) (disch := first | exact trivial | assumption | omega | exact rOk | exact rCl | exact rNo) only [go_sem, seval, u32s]
        exact fun j hj => Le.of_eq (lR_set' (by omega))
end Go.Proofs.YtmcinfbckdiaoaaGreatDoor.Lv
