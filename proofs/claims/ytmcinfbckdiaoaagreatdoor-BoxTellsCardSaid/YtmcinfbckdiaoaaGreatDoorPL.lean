/- The program's numbers: Sub. -/
import Derived.Test.YtmcinfbckdiaoaaGreatDoorPE
import Derived.Test.YtmcinfbckdiaoaaGreatDoorPK
set_option linter.unusedVariables false
set_option linter.unusedSimpArgs false
set_option maxRecDepth 100000
set_option maxHeartbeats 4000000
namespace Go.Proofs.YtmcinfbckdiaoaaGreatDoor.Lv
open Go Go.RowKit
/-- What taking away does. -/
def DifP (x y : List Nat) (s : Nat × Nat × List Nat) : Prop := s.1 ≤ x.length ∧ s.2.1 ≤ 1 ∧ s.2.2.length = x.length ∧ lows s.2.2 ∧ val (s.2.2.take s.1) + val (y.take s.1) = val (x.take s.1) + 4294967296 ^ s.1 * s.2.1
theorem DifP.next {x y : List Nat} (hx : lows x) (hy : lows y) {i c : Nat} {w : List Nat} (h : DifP x y (i, c, w)) (hi : i < x.length) :
    DifP x y (i + 1, (if x.getD i 0 < y.getD i 0 + c then 1 else 0), w.set i ((4294967296 + x.getD i 0 - c - y.getD i 0) % 4294967296)) := by
  obtain ⟨h1, h2, h3, h4, h5⟩ := h
  simp only at h1 h2 h3 h4 h5
  have g1 := hx.getD i
  have g2 := hy.getD i
  have hstep := dif_step (w := w) (d := (4294967296 + x.getD i 0 - c - y.getD i 0) % 4294967296) (c' := if x.getD i 0 < y.getD i 0 + c then 1 else 0) (by omega) h5 (by split <;> omega)
  clear h5
  exact ⟨hi, by show (if _ then 1 else 0) ≤ 1; split <;> omega, by simp only [List.length_set]; exact h3, lows_set h4 (by omega), hstep⟩
theorem DifP.fin {x y : List Nat} (hle : y.length ≤ x.length) (hv : val y ≤ val x) {c : Nat} {w : List Nat} (h : DifP x y (x.length, c, w)) : lows w ∧ val w = val x - val y := by
  obtain ⟨h1, h2, h3, h4, h5⟩ := h
  simp only at h1 h2 h3 h4 h5
  rw [List.take_of_length_le (by omega), List.take_of_length_le (by omega), List.take_of_length_le (by omega)] at h5
  have hlt := val_ltB h4
  rw [h3] at hlt
  refine ⟨h4, ?_⟩
  rcases (show c = 0 ∨ c = 1 by omega) with rfl | rfl
  · omega
  · omega
theorem u64_wr (z : Int) : IntKind.u64.wrap z = z % 18446744073709551616 := by
  simp [IntKind.wrap, IntKind.bits, IntKind.signed]
theorem dif_d (x c y : Nat) (hx : x < 4294967296) (hy : y < 4294967296) (hc : c ≤ 1) : IntKind.u32.wrap (IntKind.u64.wrap (IntKind.u64.wrap ((x : Int) - (c : Int)) - (y : Int))) = (((4294967296 + x - c - y) % 4294967296 : Nat) : Int) := by rw [wrap_u32', u64_wr, u64_wr]; omega
theorem dif_c (x c y : Nat) (hx : x < 4294967296) (hy : y < 4294967296) (hc : c ≤ 1) : IntKind.u64.wrap (IntKind.u64.wrap ((x : Int) - (c : Int)) - (y : Int)) / 9223372036854775808 = (((if x < y + c then 1 else 0) : Nat) : Int) := by rw [u64_wr, u64_wr]; split <;> omega
theorem dif_d0 (x c : Nat) (hx : x < 4294967296) (hc : c ≤ 1) : IntKind.u32.wrap (IntKind.u64.wrap ((x : Int) - (c : Int))) = (((4294967296 + x - c - 0) % 4294967296 : Nat) : Int) := by rw [wrap_u32', u64_wr]; omega
theorem dif_c0 (x c : Nat) (hx : x < 4294967296) (hc : c ≤ 1) : IntKind.u64.wrap ((x : Int) - (c : Int)) / 9223372036854775808 = (((if x < 0 + c then 1 else 0) : Nat) : Int) := by rw [u64_wr]; split <;> omega
theorem nat_Sub_lt {a b : Nat} (ha : nb a < 536870912) (hb : nb b < 536870912) (hab : a < b) : C E 97 [natD a, natD b] (.tup [.agg [.nils], .bool false]) := by
  refine CG_intro Tryz.func97 rfl (by kernel_rfl) rfl (by kernel_rfl) (by kernel_rfl) rfl ?_
  have hs : sgI (a : Int) (b : Int) = -1 := sgI_lt (by omega)
  simp (maxSteps := 3000000) (disch := first | exact trivial | assumption | omega | exact RegOk.mk (by decide +kernel) | exact RegCl.mk (by decide +kernel) | exact RegNo.mk (by kernel_rfl)) only [go_sem, seval]
  refine callC (nat_Cmp (a := a) (b := b) (by omega) (by omega)) ?_ rfl ?_
  · simp (maxSteps := 3000000) (disch := first | exact trivial | assumption | omega | exact RegOk.mk (by decide +kernel) | exact RegCl.mk (by decide +kernel) | exact RegNo.mk (by kernel_rfl)) only [go_sem, seval]
  simp (maxSteps := 3000000) (disch := first | exact trivial | assumption | omega | exact RegOk.mk (by decide +kernel) | exact RegCl.mk (by decide +kernel) | exact RegNo.mk (by kernel_rfl)) only [go_sem, seval, hs]
theorem nat_Sub {a b : Nat} (ha : nb a < 536870912) (hb : nb b < 536870912) (hab : b ≤ a) : C E 97 [natD a, natD b] (.tup [natD (a - b), .bool true]) := by
  refine CG_intro Tryz.func97 rfl (by kernel_rfl) rfl (by kernel_rfl) (by kernel_rfl) rfl ?_
  have hs : 0 ≤ sgI (a : Int) (b : Int) := by
    rcases Nat.lt_or_ge b a with h | h
    · rw [sgI_gt (by omega)]; decide
    · rw [show a = b by omega, sgI_eq]; decide
  simp (maxSteps := 3000000) (disch := first | exact trivial | assumption | omega | exact RegOk.mk (by decide +kernel) | exact RegCl.mk (by decide +kernel) | exact RegNo.mk (by kernel_rfl)) only [go_sem, seval]
  refine callC (nat_Cmp (a := a) (b := b) (by omega) (by omega)) ?_ rfl ?_
  · simp (maxSteps := 3000000) (disch := first | exact trivial | assumption | omega | exact RegOk.mk (by decide +kernel) | exact RegCl.mk (by decide +kernel) | exact RegNo.mk (by kernel_rfl)) only [go_sem, seval]
  have hns : ¬ sgI (a : Int) (b : Int) < 0 := by omega
  unfold nb at ha hb
  have va := val_limbs a
  have vb := val_limbs b
  have la := limbs_low a
  have lb := limbs_low b
  have hle : (limbs b).length ≤ (limbs a).length := by
    rcases Nat.lt_or_ge (limbs a).length (limbs b).length with h | h
    · have := cmp_len h; omega
    · exact h
  simp only [natD]
  generalize sgI (a : Int) (b : Int) = sg at *
  generalize limbs a = l at *
  generalize limbs b = m at *
  subst va vb
  simp (maxSteps := 3000000) (disch := first | exact trivial | assumption | omega | exact RegOk.mk (by decide +kernel) | exact RegCl.mk (by decide +kernel) | exact RegNo.mk (by kernel_rfl)) only [go_sem, seval, natD, u32s, hns]
  refine ⟨by omega, by omega, by omega, ?_⟩
  refine AL.of (DifP l m) (fun s => l.length - s.1) (fun s => [(2, .ad 0 0), (3, .ad 1 0), (4, .ad 2 0), (5, .bool false), (6, .sl 3 0 0 l.length), (7, .int .u64 s.2.1), (20, u32s l), (21, .int .i64 l.length), (22, .int .i64 s.1)])
    (fun s => [(3, .row false 0 false 1 l.length (lR s.2.2)), (2, .var true 1 (.agg [.nils])), (1, .var true 1 (.agg [u32s m])), (0, .var true 1 (.agg [u32s l]))]) (0, 0, List.replicate l.length 0) ⟨by simp, by simp, by simp, lows_rep _, by simp [val]⟩ ?_ ?_ ?_ ?_
  · simp (maxSteps := 3000000) (disch := first | exact trivial | assumption | omega | exact RegOk.mk (by decide +kernel) | exact RegCl.mk (by decide +kernel) | exact RegNo.mk (by kernel_rfl)) only [go_sem, seval, u32s]
  · simp (maxSteps := 3000000) (disch := first | exact trivial | assumption | omega | exact RegOk.mk (by decide +kernel) | exact RegCl.mk (by decide +kernel) | exact RegNo.mk (by kernel_rfl)) only [go_sem, seval, u32s]
    try exact fun i hi => Le.of_eq (by unfold lR; rw [List.getD_eq_getElem?_getD, List.getElem?_replicate, if_pos hi]; rfl)
  · intro x _; simp (maxSteps := 3000000) (disch := first | exact trivial | assumption | omega | exact RegOk.mk (by decide +kernel) | exact RegCl.mk (by decide +kernel) | exact RegNo.mk (by kernel_rfl)) only [go_sem, seval]
  rintro ⟨i, c, w⟩ hP
  have hn := hP.next la lb
  have hf := hP
  obtain ⟨h1, h2, h3, h4, h5⟩ := hP
  simp only at h1 h2 h3 h4 h5
  have g1 := la.getD i
  have g2 := lb.getD i
  by_cases hi : i = l.length
  · subst hi
    obtain ⟨q1, q2⟩ := hf.fin hle hab
    have hc := nat_cut q1 (by omega)
    rw [q2] at hc
    clear h5 hf hn h4
    simp (maxSteps := 3000000) (disch := first | exact trivial | assumption | omega | exact RegOk.mk (by decide +kernel) | exact RegCl.mk (by decide +kernel) | exact RegNo.mk (by kernel_rfl)) only [go_sem, seval, u32s]
    refine callC hc ?_ rfl ?_
    · simp (maxSteps := 3000000) (disch := first | exact trivial | assumption | omega | exact RegOk.mk (by decide +kernel) | exact RegCl.mk (by decide +kernel) | exact RegNo.mk (by kernel_rfl)) only [go_sem, seval, u32s]
      first | exact LesV_rows (by omega) fun j hj => rfl | (rw [h3]; exact LesV_rows rfl fun j hj => rfl)
    simp (maxSteps := 3000000) (disch := first | exact trivial | assumption | omega | exact RegOk.mk (by decide +kernel) | exact RegCl.mk (by decide +kernel) | exact RegNo.mk (by kernel_rfl)) only [go_sem, seval]
    try exact LeV.refl _
  · have hi' : i < l.length := by omega
    have hn' := hn hi'
    clear hn hf h5 h4 h1
    by_cases hj : i < m.length
    · simp (maxSteps := 3000000) (disch := first | exact trivial | assumption | omega | exact RegOk.mk (by decide +kernel) | exact RegCl.mk (by decide +kernel) | exact RegNo.mk (by kernel_rfl)) only [go_sem, seval, u32s, lR, dif_d, dif_c]
      refine ⟨_, hn', by show l.length - (i + 1) < l.length - i; omega, ?_, ?_⟩
      · simp (maxSteps := 3000000) (disch := first | exact trivial | assumption | omega | exact RegOk.mk (by decide +kernel) | exact RegCl.mk (by decide +kernel) | exact RegNo.mk (by kernel_rfl)) only [go_sem, seval, u32s]
        try exact LeV.of_eq (by rw [Int.natCast_succ])
      · simp (maxSteps := 3000000) (disch := first | exact trivial | assumption | omega | exact RegOk.mk (by decide +kernel) | exact RegCl.mk (by decide +kernel) | exact RegNo.mk (by kernel_rfl)) only [go_sem, seval, u32s]
        exact fun j hj => Le.of_eq (lR_set' (by omega))
    · have hy0 := getD_out' (l := m) (i := i) (by omega)
      rw [hy0] at hn'
      simp (maxSteps := 3000000) (disch := first | exact trivial | assumption | omega | exact RegOk.mk (by decide +kernel) | exact RegCl.mk (by decide +kernel) | exact RegNo.mk (by kernel_rfl)) only [go_sem, seval, u32s, lR, dif_d0, dif_c0]
      refine ⟨_, hn', by show l.length - (i + 1) < l.length - i; omega, ?_, ?_⟩
      · simp (maxSteps := 3000000) (disch := first | exact trivial | assumption | omega | exact RegOk.mk (by decide +kernel) | exact RegCl.mk (by decide +kernel) | exact RegNo.mk (by kernel_rfl)) only [go_sem, seval, u32s]
        try exact LeV.of_eq (by rw [Int.natCast_succ])
      · simp (maxSteps := 3000000) (disch := first | exact trivial | assumption | omega | exact RegOk.mk (by decide +kernel) | exact RegCl.mk (by decide +kernel) | exact RegNo.mk (by kernel_rfl)) only [go_sem, seval, u32s]
        exact fun j hj => Le.of_eq (lR_set' (by omega))
end Go.Proofs.YtmcinfbckdiaoaaGreatDoor.Lv
