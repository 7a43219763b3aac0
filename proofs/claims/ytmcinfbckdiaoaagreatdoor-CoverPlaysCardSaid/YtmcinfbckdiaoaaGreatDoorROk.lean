/- The law of the account of boxes: each answer. -/
import Derived.Test.YtmcinfbckdiaoaaGreatDoorROj
import Derived.Test.YtmcinfbckdiaoaaGreatDoorRe
import Derived.Test.YtmcinfbckdiaoaaGreatDoorRc
import Derived.Test.YtmcinfbckdiaoaaGreatDoorQH
set_option linter.unusedVariables false
set_option linter.unusedSimpArgs false
set_option maxRecDepth 100000
set_option maxHeartbeats 8000000
namespace Go.Proofs.YtmcinfbckdiaoaaGreatDoor.Lv
open Go Go.RowKit
/-- The document's rows: boxes, depths. -/
def lbR (l : List Plc) : Nat → D := fun j => rbD (l.getD j ([], 0)).1
def dpR (l : List Plc) : Nat → D := fun j => .int .i64 (l.getD j ([], 0)).2
def lbD (l : List Plc) : D := .ro false 1 l.length (lbR l)
def dpD (l : List Plc) : D := .ro false 1 l.length (dpR l)
theorem lb_tail (p : Plc) (r : List Plc) (i : Nat) : lbR (p :: r) (1 + i) = lbR r i := by
  unfold lbR; rw [Nat.add_comm, List.getD_cons_succ]
theorem dp_tail (p : Plc) (r : List Plc) (i : Nat) : dpR (p :: r) (1 + i) = dpR r i := by
  unfold dpR; rw [Nat.add_comm, List.getD_cons_succ]
theorem lb_top (p : Plc) (r : List Plc) : lbR (p :: r) 0 = rbD p.1 := Eq.trans rfl rfl
theorem dp_top (p : Plc) (r : List Plc) : dpR (p :: r) 0 = .int .i64 p.2 := Eq.trans rfl rfl
theorem lb_split (lo hi : Plc) (r : List Plc) (j : Nat) : Le (if j < 2 then [rbD lo.1, rbD hi.1].getD j .unk else lbR r (j - 2)) (lbR (lo :: hi :: r) j) := by
  rcases j with _ | _ | j
  · exact Le.refl _
  · exact Le.refl _
  · rw [if_neg (by omega)]
    exact Le.refl _
theorem dp_split (lo hi : Plc) (r : List Plc) {n : Int} (h1 : n = lo.2) (h2 : n = hi.2) (j : Nat) : Le (if j < 2 then [D.int .i64 n, D.int .i64 n].getD j .unk else dpR r (j - 2)) (dpR (lo :: hi :: r) j) := by
  rcases j with _ | _ | j
  · rw [h1]; exact Le.refl _
  · rw [h2]; exact Le.refl _
  · rw [if_neg (by omega)]
    exact Le.refl _
/-- A place's bounds, behind so many splits at most. -/
def PlF (L Z n k : Nat) (p : Plc) : Prop := ∃ e : Nat, p.2 = e ∧ e ≤ k ∧ BxF (2 ^ e * L) (2 ^ e * Z) n p.1
theorem PlF.bx {L Z n k : Nat} {p : Plc} (h : PlF L Z n k p) (hL : L ≠ 0) (hk : k ≤ 60) (h1 : nb L ≤ 30000) (h2 : nb Z ≤ 30000) : BxB 30002 n p.1 := by
  obtain ⟨e, _, he, hb⟩ := h
  have hp := Nat.two_pow_pos e
  have h60 : (2 : Nat) ^ e ≤ 2 ^ 60 := Nat.pow_le_pow_right (by omega) (by omega)
  have hn : nb (2 ^ e) ≤ 2 := by
    refine Nat.le_trans (nb_mono h60) (nb_lt.2 (by decide))
  have n1 := nb_mul (2 ^ e) L
  have n2 := nb_mul (2 ^ e) Z
  exact hb.bx (Nat.mul_ne_zero (by omega) hL) (by omega) (by omega)
theorem PlF.up {L Z n k : Nat} {p : Plc} (h : PlF L Z n k p) : PlF L Z n (k + 1) p := by
  obtain ⟨e, h1, h2, h3⟩ := h
  exact ⟨e, h1, by omega, h3⟩
theorem PlF.split {L Z n k i : Nat} {p : Plc} (h : PlF L Z n k p) (hL : L ≠ 0) (hi : i < n) : PlF L Z n (k + 1) (splitL p.1 i, p.2 + 1) ∧ PlF L Z n (k + 1) (splitH p.1 i, p.2 + 1) := by
  obtain ⟨e, h1, h2, h3⟩ := h
  have hp := Nat.two_pow_pos e
  obtain ⟨s1, s2⟩ := h3.split (Nat.mul_ne_zero (by omega) hL) hi
  have e1 : 2 * (2 ^ e * L) = 2 ^ (e + 1) * L := by rw [Nat.pow_succ, Nat.mul_comm (2 ^ e) 2, Nat.mul_assoc]
  have e2 : 2 * (2 ^ e * Z) = 2 ^ (e + 1) * Z := by rw [Nat.pow_succ, Nat.mul_comm (2 ^ e) 2, Nat.mul_assoc]
  rw [e1, e2] at s1 s2
  exact ⟨⟨e + 1, by show p.2 + 1 = _; omega, by omega, s1⟩, ⟨e + 1, by show p.2 + 1 = _; omega, by omega, s2⟩⟩
/-- The account's places, the next one last. -/
def StP (f : Nat → D) (l : List Plc) : Prop := ∀ j, j < l.length → f j = plD (l.getD (l.length - 1 - j) ([], 0))
theorem StP.one (p : Plc) : StP (fun _ => plD p) [p] := by
  intro j hj
  obtain rfl : j = 0 := by
    have hj : j < 1 := hj
    omega
  rfl
theorem StP.top {f : Nat → D} {p : Plc} {r : List Plc} (h : StP f (p :: r)) : f r.length = plD p := by
  have := h r.length (by simp)
  rw [this, List.length_cons, show r.length + 1 - 1 - r.length = 0 by omega]
  rfl
theorem StP.tail {f : Nat → D} {p : Plc} {r : List Plc} (h : StP f (p :: r)) : StP f r := by
  intro j hj
  have := h j (by rw [List.length_cons]; omega)
  rw [this, List.length_cons, show r.length + 1 - 1 - j = (r.length - 1 - j) + 1 by omega, List.getD_cons_succ]
theorem StP.split {f : Nat → D} {p lo hi : Plc} {r : List Plc} (h : StP f (p :: r)) : StP (fun j => if j < r.length then f j else if j = r.length then plD hi else plD lo) (lo :: hi :: r) := by
  intro j hj
  rw [List.length_cons, List.length_cons] at hj ⊢
  show (if j < r.length then f j else if j = r.length then plD hi else plD lo) = _
  by_cases h1 : j < r.length
  · rw [if_pos h1, h.tail j h1, show r.length + 1 + 1 - 1 - j = (r.length - 1 - j) + 1 + 1 by omega, List.getD_cons_succ, List.getD_cons_succ]
  · rw [if_neg h1]
    by_cases h2 : j = r.length
    · rw [if_pos h2, h2, show r.length + 1 + 1 - 1 - r.length = 0 + 1 by omega, List.getD_cons_succ]; rfl
    · rw [if_neg h2, show r.length + 1 + 1 - 1 - j = 0 by omega]; rfl
theorem coverPlays (l : List (Txt × Txt)) (ht : ∀ p ∈ l, p.1.length < 9223372036854775808 ∧ p.2.length < 9223372036854775808) (depth : Int) (acts : List Int) : C E 8 [txD l, .int .i64 depth, .ro false 1 acts.length (iR acts)] (.bool true) := by
  refine CG_intro Tryz.func8 rfl (by kernel_rfl) rfl (by kernel_rfl) (by kernel_rfl) rfl ?_
  have hRaw := law6_Raw ht
  have hlen := rawL_len l
  have hqb := rawL_qb l
  generalize rawL l = w at *
  have hqs : ∀ p ∈ w, qs p.1 ∧ qs p.2 := fun p hp => ⟨(hqb p hp).1.qs (by omega), (hqb p hp).2.qs (by omega)⟩
  have hR' := ref_BoxRight hqs (by omega)
  simp (maxSteps := 3000000) (disch := first | exact trivial | assumption | omega | exact rOk | exact rCl | exact rNo) only [go_sem, seval]
  refine callC alive24 ?_ rfl ?_
  · simp (maxSteps := 3000000) (disch := first | exact trivial | assumption | omega | exact rOk | exact rCl | exact rNo) only [go_sem, seval]
    try exact LesV.refl _
  by_cases ha : acts.length ≤ 60
  case neg =>
    simp (maxSteps := 3000000) (disch := first | exact trivial | assumption | omega | exact rOk | exact rCl | exact rNo) only [go_sem, seval]
  case pos =>
  simp (maxSteps := 3000000) (disch := first | exact trivial | assumption | omega | exact rOk | exact rCl | exact rNo) only [go_sem, seval]
  refine callC hRaw ?_ rfl ?_
  · simp (maxSteps := 3000000) (disch := first | exact trivial | assumption | omega | exact rOk | exact rCl | exact rNo) only [go_sem, seval]
    try exact LesV.refl _
  by_cases hr : rightB w = true
  case neg =>
    have hr' : rightB w = false := by simpa using hr
    rw [hr'] at hR'
    have hN := cov_New_no hqs (by omega) depth hr'
    simp (maxSteps := 3000000) (disch := first | exact trivial | assumption | omega | exact rOk | exact rCl | exact rNo) only [go_sem, seval]
    refine callC hN ?_ rfl ?_
    · simp (maxSteps := 3000000) (disch := first | exact trivial | assumption | omega | exact rOk | exact rCl | exact rNo) only [go_sem, seval]
      try exact LesV.refl _
    simp (maxSteps := 3000000) (disch := first | exact trivial | assumption | omega | exact rOk | exact rCl | exact rNo) only [go_sem, seval]
    refine callC hR' ?_ rfl ?_
    · simp (maxSteps := 3000000) (disch := first | exact trivial | assumption | omega | exact rOk | exact rCl | exact rNo) only [go_sem, seval]
      try exact LesV.refl _
    simp (maxSteps := 3000000) (disch := first | exact trivial | assumption | omega | exact rOk | exact rCl | exact rNo) only [go_sem, seval]
  case pos =>
  rw [hr] at hR'
  have hN := cov_New hqs (by omega) depth hr
  obtain ⟨L, Z, hL, hnL, hnZ, hB⟩ := bx_F (k := 4001) (n := w.length) ⟨hr, rfl, hqb⟩
  have hm1 := (rightB_iff.1 hr).2.1
  have hm3 := (rightB_iff.1 hr).2.2
  simp (maxSteps := 3000000) (disch := first | exact trivial | assumption | omega | exact rOk | exact rCl | exact rNo) only [go_sem, seval]
  refine callN hN ?_ ?_
  · simp (maxSteps := 3000000) (disch := first | exact trivial | assumption | omega | exact rOk | exact rCl | exact rNo) only [go_sem, seval]
    try exact LesV.refl _
  simp (maxSteps := 3000000) (disch := first | exact trivial | assumption | omega | exact rOk | exact rCl | exact rNo) only [go_sem, seval]
  refine callC hR' ?_ rfl ?_
  · simp (maxSteps := 3000000) (disch := first | exact trivial | assumption | omega | exact rOk | exact rCl | exact rNo) only [go_sem, seval]
    try exact LesV.refl _
  simp (maxSteps := 3000000) (disch := first | exact trivial | assumption | omega | exact rOk | exact rCl | exact rNo) only [go_sem, seval, rbD]
  refine AL.of (fun x : Nat × Nat × Nat × List Plc × (Nat → D) => x.1 ≤ acts.length ∧ x.2.2.2.1.length ≤ x.2.2.1 ∧ x.2.2.2.1.length ≤ x.1 + 1 ∧ StP x.2.2.2.2 x.2.2.2.1 ∧ ∀ p ∈ x.2.2.2.1, PlF L Z w.length x.1 p) (fun x => acts.length - x.1)
    (fun x => [(1, .int .i64 depth), (2, .ro false 1 acts.length (iR acts)), (8, rbD w), (9, .ad 1 0), (10, lbD x.2.2.2.1), (11, dpD x.2.2.2.1), (12, .int .i64 x.1)])
    (fun x => [(1, .var true 2 (.agg [.sl 0 x.2.1 0 x.2.2.2.1.length, .int .i64 depth])), (0, .row false x.2.1 true 2 x.2.2.1 x.2.2.2.2)]) (0, 0, 1, [(w, 0)], fun _ => plD (w, 0))
    ⟨Nat.zero_le _, Nat.le_refl _, Nat.le_refl _, StP.one _, fun p hp => ?_⟩ ?_ ?_ ?_ ?_
  · rw [List.mem_singleton] at hp
    subst hp
    exact ⟨0, rfl, Nat.le_refl _, by rw [Nat.pow_zero, Nat.one_mul, Nat.one_mul]; exact hB⟩
  · simp (maxSteps := 3000000) (disch := first | exact trivial | assumption | omega | exact rOk | exact rCl | exact rNo) only [go_sem, seval, rbD, lbD, dpD, List.length_singleton]
    refine ⟨LeV.ro rfl fun j hj => ?_, LeV.ro rfl fun j hj => ?_⟩
    · obtain rfl : j = 0 := by omega
      exact Le.refl _
    · obtain rfl : j = 0 := by omega
      exact Le.refl _
  · simp (maxSteps := 3000000) (disch := first | exact trivial | assumption | omega | exact rOk | exact rCl | exact rNo) only [go_sem, seval, List.length_singleton]
    exact fun _ _ => trivial
  · intro x _; simp (maxSteps := 3000000) (disch := first | exact trivial | assumption | omega | exact rOk | exact rCl | exact rNo) only [go_sem, seval]
  clear hN hRaw hR'
  rintro ⟨k, v, N, pl, f⟩ ⟨hk, p1, p2, hS, hF⟩
  simp only at hk p1 p2 hS hF
  by_cases hkl : k = acts.length
  · subst hkl
    simp (maxSteps := 3000000) (disch := first | exact trivial | assumption | omega | exact rOk | exact rCl | exact rNo) only [go_sem, seval]
  have hk' : k < acts.length := by omega
  have ek : ((k : Nat) : Int).toNat = k := by omega
  have hak : iR acts k = .int .i64 (acts.getD k 0) := rfl
  generalize acts.getD k 0 = a at *
  by_cases ha10 : a ≥ 10
  · rcases pl with _ | ⟨p, r⟩
    · skip
      have c0 := cov_Close0 v N depth f
      unfold cvH at c0
      try simp (maxSteps := 3000000) (disch := first | exact trivial | assumption | omega | exact rOk | exact rCl | exact rNo) only [go_sem, seval, ek, hak, List.length_cons, List.length_nil, lbD, dpD, lb_tail, dp_tail, lb_top, dp_top]
      refine callG [1, 0] c0 rfl (by simp (maxSteps := 3000000) (disch := first | exact trivial | assumption | omega | exact rOk | exact rCl | exact rNo) only [go_sem, seval]) ?_ ?_ ?_
      · simp (maxSteps := 3000000) (disch := first | exact trivial | assumption | omega | exact rOk | exact rCl | exact rNo) only [go_sem, seval]
        try exact LesV.refl _
      · simp (maxSteps := 3000000) (disch := first | exact trivial | assumption | omega | exact rOk | exact rCl | exact rNo) only [go_sem, seval]
      have c1 := cov_Top0 v N depth f
      have c2 := cov_Left v N depth (n := 0) f (by omega)
      unfold cvH at c1 c2
      try simp (maxSteps := 3000000) (disch := first | exact trivial | assumption | omega | exact rOk | exact rCl | exact rNo) only [go_sem, seval, ek, hak, List.length_cons, List.length_nil, lbD, dpD, lb_tail, dp_tail, lb_top, dp_top]
      refine callG [1, 0] c1 rfl (by simp (maxSteps := 3000000) (disch := first | exact trivial | assumption | omega | exact rOk | exact rCl | exact rNo) only [go_sem, seval]) ?_ ?_ ?_
      · simp (maxSteps := 3000000) (disch := first | exact trivial | assumption | omega | exact rOk | exact rCl | exact rNo) only [go_sem, seval]
        try exact LesV.refl _
      · simp (maxSteps := 3000000) (disch := first | exact trivial | assumption | omega | exact rOk | exact rCl | exact rNo) only [go_sem, seval]
      try simp (maxSteps := 3000000) (disch := first | exact trivial | assumption | omega | exact rOk | exact rCl | exact rNo) only [go_sem, seval, ek, hak, List.length_cons, List.length_nil, lbD, dpD, lb_tail, dp_tail, lb_top, dp_top]
      refine callG [1, 0] c2 rfl (by simp (maxSteps := 3000000) (disch := first | exact trivial | assumption | omega | exact rOk | exact rCl | exact rNo) only [go_sem, seval]) ?_ ?_ ?_
      · simp (maxSteps := 3000000) (disch := first | exact trivial | assumption | omega | exact rOk | exact rCl | exact rNo) only [go_sem, seval]
        try exact LesV.refl _
      · simp (maxSteps := 3000000) (disch := first | exact trivial | assumption | omega | exact rOk | exact rCl | exact rNo) only [go_sem, seval]
      simp (maxSteps := 3000000) (disch := first | exact trivial | assumption | omega | exact rOk | exact rCl | exact rNo) only [go_sem, seval, ek, hak, List.length_cons, List.length_nil, lbD, dpD, lb_tail, dp_tail, lb_top, dp_top]
      refine ⟨(k + 1, v, N, [], f), ⟨hk', Nat.zero_le _, Nat.zero_le _, fun j hj => absurd hj (Nat.not_lt_zero _), fun p hp => by cases hp⟩, by show acts.length - (k + 1) < acts.length - k; omega, ?_, ?_⟩
      · simp (maxSteps := 3000000) (disch := first | exact trivial | assumption | omega | exact rOk | exact rCl | exact rNo) only [go_sem, seval, ek, hak, List.length_cons, List.length_nil, lbD, dpD, lb_tail, dp_tail, lb_top, dp_top]
        try exact ⟨LeV.nils_ro, LeV_int (by omega)⟩
        try exact LeV_int (by omega)
      · simp (maxSteps := 3000000) (disch := first | exact trivial | assumption | omega | exact rOk | exact rCl | exact rNo) only [go_sem, seval, List.length_nil]
        try exact fun _ _ => trivial
    · skip
      rw [List.length_cons] at p1 p2
      have c0 := cov_Close v N depth (n := r.length) f (by omega)
      unfold cvH at c0
      try simp (maxSteps := 3000000) (disch := first | exact trivial | assumption | omega | exact rOk | exact rCl | exact rNo) only [go_sem, seval, ek, hak, List.length_cons, List.length_nil, lbD, dpD, lb_tail, dp_tail, lb_top, dp_top]
      refine callG [1, 0] c0 rfl (by simp (maxSteps := 3000000) (disch := first | exact trivial | assumption | omega | exact rOk | exact rCl | exact rNo) only [go_sem, seval]) ?_ ?_ ?_
      · simp (maxSteps := 3000000) (disch := first | exact trivial | assumption | omega | exact rOk | exact rCl | exact rNo) only [go_sem, seval]
        try exact LesV.refl _
      · simp (maxSteps := 3000000) (disch := first | exact trivial | assumption | omega | exact rOk | exact rCl | exact rNo) only [go_sem, seval]
      have hS' := hS.tail
      have hF' : ∀ q ∈ r, PlF L Z w.length (k + 1) q := fun q hq => (hF q (List.mem_cons_of_mem _ hq)).up
      clear hS hF
      rcases r with _ | ⟨p', r'⟩
      · skip
        have c1 := cov_Top0 v N depth f
        have c2 := cov_Left v N depth (n := 0) f (by omega)
        unfold cvH at c1 c2
        try simp (maxSteps := 3000000) (disch := first | exact trivial | assumption | omega | exact rOk | exact rCl | exact rNo) only [go_sem, seval, ek, hak, List.length_cons, List.length_nil, lbD, dpD, lb_tail, dp_tail, lb_top, dp_top]
        refine callG [1, 0] c1 rfl (by simp (maxSteps := 3000000) (disch := first | exact trivial | assumption | omega | exact rOk | exact rCl | exact rNo) only [go_sem, seval]) ?_ ?_ ?_
        · simp (maxSteps := 3000000) (disch := first | exact trivial | assumption | omega | exact rOk | exact rCl | exact rNo) only [go_sem, seval]
          try exact LesV.refl _
        · simp (maxSteps := 3000000) (disch := first | exact trivial | assumption | omega | exact rOk | exact rCl | exact rNo) only [go_sem, seval]
        try simp (maxSteps := 3000000) (disch := first | exact trivial | assumption | omega | exact rOk | exact rCl | exact rNo) only [go_sem, seval, ek, hak, List.length_cons, List.length_nil, lbD, dpD, lb_tail, dp_tail, lb_top, dp_top]
        refine callG [1, 0] c2 rfl (by simp (maxSteps := 3000000) (disch := first | exact trivial | assumption | omega | exact rOk | exact rCl | exact rNo) only [go_sem, seval]) ?_ ?_ ?_
        · simp (maxSteps := 3000000) (disch := first | exact trivial | assumption | omega | exact rOk | exact rCl | exact rNo) only [go_sem, seval]
          try exact LesV.refl _
        · simp (maxSteps := 3000000) (disch := first | exact trivial | assumption | omega | exact rOk | exact rCl | exact rNo) only [go_sem, seval]
        simp (maxSteps := 3000000) (disch := first | exact trivial | assumption | omega | exact rOk | exact rCl | exact rNo) only [go_sem, seval, ek, hak, List.length_cons, List.length_nil, lbD, dpD, lb_tail, dp_tail, lb_top, dp_top]
        refine ⟨(k + 1, v, N, [], f), ⟨hk', Nat.zero_le _, Nat.zero_le _, fun j hj => absurd hj (Nat.not_lt_zero _), fun p hp => by cases hp⟩, by show acts.length - (k + 1) < acts.length - k; omega, ?_, ?_⟩
        · simp (maxSteps := 3000000) (disch := first | exact trivial | assumption | omega | exact rOk | exact rCl | exact rNo) only [go_sem, seval, ek, hak, List.length_cons, List.length_nil, lbD, dpD, lb_tail, dp_tail, lb_top, dp_top]
          try exact ⟨LeV.nils_ro, LeV_int (by omega)⟩
          try exact LeV_int (by omega)
        · simp (maxSteps := 3000000) (disch := first | exact trivial | assumption | omega | exact rOk | exact rCl | exact rNo) only [go_sem, seval, List.length_nil]
          try exact fun _ _ => trivial
      · rw [List.length_cons] at p1 p2
        have hX := (hF' p' List.mem_cons_self).bx hL (by omega) (by omega) (by omega)
        have hXl := hX.2.1
        have zn : p'.1 ≠ [] := fun e => by rw [e] at hXl; simp at hXl; omega
        have c1 := cov_Top v N depth f (n := r'.length) (by omega) (by omega) hS'.top zn (by omega)
        have c2 := cov_Left v N depth (n := r'.length + 1) f (by omega)
        have c3 := law6_Is (l := p'.1) (fun q hq => ⟨(hX.2.2 q hq).1.mono (by omega), (hX.2.2 q hq).2.mono (by omega)⟩) (by omega)
        have hne2 : (p'.2 != p'.2) = false := by simp
        unfold cvH at c1 c2
        try simp (maxSteps := 3000000) (disch := first | exact trivial | assumption | omega | exact rOk | exact rCl | exact rNo) only [go_sem, seval, ek, hak, List.length_cons, List.length_nil, lbD, dpD, lb_tail, dp_tail, lb_top, dp_top]
        refine callG [1, 0] c1 rfl (by simp (maxSteps := 3000000) (disch := first | exact trivial | assumption | omega | exact rOk | exact rCl | exact rNo) only [go_sem, seval]) ?_ ?_ ?_
        · simp (maxSteps := 3000000) (disch := first | exact trivial | assumption | omega | exact rOk | exact rCl | exact rNo) only [go_sem, seval]
          try exact LesV.refl _
        · simp (maxSteps := 3000000) (disch := first | exact trivial | assumption | omega | exact rOk | exact rCl | exact rNo) only [go_sem, seval]
        try simp (maxSteps := 3000000) (disch := first | exact trivial | assumption | omega | exact rOk | exact rCl | exact rNo) only [go_sem, seval, ek, hak, List.length_cons, List.length_nil, lbD, dpD, lb_tail, dp_tail, lb_top, dp_top]
        refine callG [1, 0] c2 rfl (by simp (maxSteps := 3000000) (disch := first | exact trivial | assumption | omega | exact rOk | exact rCl | exact rNo) only [go_sem, seval]) ?_ ?_ ?_
        · simp (maxSteps := 3000000) (disch := first | exact trivial | assumption | omega | exact rOk | exact rCl | exact rNo) only [go_sem, seval]
          try exact LesV.refl _
        · simp (maxSteps := 3000000) (disch := first | exact trivial | assumption | omega | exact rOk | exact rCl | exact rNo) only [go_sem, seval]
        simp (maxSteps := 3000000) (disch := first | exact trivial | assumption | omega | exact rOk | exact rCl | exact rNo) only [go_sem, seval, ek, hak, List.length_cons, List.length_nil, lbD, dpD, lb_tail, dp_tail, lb_top, dp_top]
        refine callC c3 ?_ rfl ?_
        · simp (maxSteps := 3000000) (disch := first | exact trivial | assumption | omega | exact rOk | exact rCl | exact rNo) only [go_sem, seval, ek, hak, List.length_cons, List.length_nil, lbD, dpD, lb_tail, dp_tail, lb_top, dp_top]
          try exact LesV.refl _
        simp (maxSteps := 3000000) (disch := first | exact trivial | assumption | omega | exact rOk | exact rCl | exact rNo) only [go_sem, seval, ek, hak, List.length_cons, List.length_nil, lbD, dpD, lb_tail, dp_tail, lb_top, dp_top, hne2]
        refine ⟨(k + 1, v, N, p' :: r', f), ⟨hk', by show r'.length + 1 ≤ N; omega, by show r'.length + 1 ≤ k + 1 + 1; omega, hS', hF'⟩, by show acts.length - (k + 1) < acts.length - k; omega, ?_, ?_⟩
        · simp (maxSteps := 3000000) (disch := first | exact trivial | assumption | omega | exact rOk | exact rCl | exact rNo) only [go_sem, seval, ek, hak, List.length_cons, List.length_nil, lbD, dpD, lb_tail, dp_tail, lb_top, dp_top]
          try exact LeV_int (by omega)
        · simp (maxSteps := 3000000) (disch := first | exact trivial | assumption | omega | exact rOk | exact rCl | exact rNo) only [go_sem, seval, List.length_cons]
          try exact fun _ _ => trivial
  · rcases pl with _ | ⟨p, r⟩
    · skip
      have c0 := cov_Split0 v N depth f a
      unfold cvH at c0
      try simp (maxSteps := 3000000) (disch := first | exact trivial | assumption | omega | exact rOk | exact rCl | exact rNo) only [go_sem, seval, ek, hak, List.length_cons, List.length_nil, lbD, dpD, lb_tail, dp_tail, lb_top, dp_top]
      refine callG [1, 0] c0 rfl (by simp (maxSteps := 3000000) (disch := first | exact trivial | assumption | omega | exact rOk | exact rCl | exact rNo) only [go_sem, seval]) ?_ ?_ ?_
      · simp (maxSteps := 3000000) (disch := first | exact trivial | assumption | omega | exact rOk | exact rCl | exact rNo) only [go_sem, seval]
        try exact LesV.refl _
      · simp (maxSteps := 3000000) (disch := first | exact trivial | assumption | omega | exact rOk | exact rCl | exact rNo) only [go_sem, seval]
      have c1 := cov_Top0 v N depth f
      have c2 := cov_Left v N depth (n := 0) f (by omega)
      unfold cvH at c1 c2
      try simp (maxSteps := 3000000) (disch := first | exact trivial | assumption | omega | exact rOk | exact rCl | exact rNo) only [go_sem, seval, ek, hak, List.length_cons, List.length_nil, lbD, dpD, lb_tail, dp_tail, lb_top, dp_top]
      refine callG [1, 0] c1 rfl (by simp (maxSteps := 3000000) (disch := first | exact trivial | assumption | omega | exact rOk | exact rCl | exact rNo) only [go_sem, seval]) ?_ ?_ ?_
      · simp (maxSteps := 3000000) (disch := first | exact trivial | assumption | omega | exact rOk | exact rCl | exact rNo) only [go_sem, seval]
        try exact LesV.refl _
      · simp (maxSteps := 3000000) (disch := first | exact trivial | assumption | omega | exact rOk | exact rCl | exact rNo) only [go_sem, seval]
      try simp (maxSteps := 3000000) (disch := first | exact trivial | assumption | omega | exact rOk | exact rCl | exact rNo) only [go_sem, seval, ek, hak, List.length_cons, List.length_nil, lbD, dpD, lb_tail, dp_tail, lb_top, dp_top]
      refine callG [1, 0] c2 rfl (by simp (maxSteps := 3000000) (disch := first | exact trivial | assumption | omega | exact rOk | exact rCl | exact rNo) only [go_sem, seval]) ?_ ?_ ?_
      · simp (maxSteps := 3000000) (disch := first | exact trivial | assumption | omega | exact rOk | exact rCl | exact rNo) only [go_sem, seval]
        try exact LesV.refl _
      · simp (maxSteps := 3000000) (disch := first | exact trivial | assumption | omega | exact rOk | exact rCl | exact rNo) only [go_sem, seval]
      simp (maxSteps := 3000000) (disch := first | exact trivial | assumption | omega | exact rOk | exact rCl | exact rNo) only [go_sem, seval, ek, hak, List.length_cons, List.length_nil, lbD, dpD, lb_tail, dp_tail, lb_top, dp_top]
      refine ⟨(k + 1, v, N, [], f), ⟨hk', Nat.zero_le _, Nat.zero_le _, fun j hj => absurd hj (Nat.not_lt_zero _), fun p hp => by cases hp⟩, by show acts.length - (k + 1) < acts.length - k; omega, ?_, ?_⟩
      · simp (maxSteps := 3000000) (disch := first | exact trivial | assumption | omega | exact rOk | exact rCl | exact rNo) only [go_sem, seval, ek, hak, List.length_cons, List.length_nil, lbD, dpD, lb_tail, dp_tail, lb_top, dp_top]
        try exact ⟨LeV.nils_ro, LeV_int (by omega)⟩
        try exact LeV_int (by omega)
      · simp (maxSteps := 3000000) (disch := first | exact trivial | assumption | omega | exact rOk | exact rCl | exact rNo) only [go_sem, seval, List.length_nil]
        try exact fun _ _ => trivial
    · skip
      rw [List.length_cons] at p1 p2
      have hX0 := (hF p List.mem_cons_self).bx hL (by omega) (by omega) (by omega)
      have hX0l := hX0.2.1
      have zr := hX0.1
      have zq : ∀ q ∈ p.1, qb 40000000 q.1 ∧ qb 40000000 q.2 := fun q hq => ⟨(hX0.2.2 q hq).1.mono (by omega), (hX0.2.2 q hq).2.mono (by omega)⟩
      have zq11 : ∀ q ∈ p.1, qb 11000000 q.1 ∧ qb 11000000 q.2 := fun q hq => ⟨(hX0.2.2 q hq).1.mono (by omega), (hX0.2.2 q hq).2.mono (by omega)⟩
      have zqs : ∀ q ∈ p.1, qs q.1 ∧ qs q.2 := fun q hq => ⟨(zq q hq).1.qs (by omega), (zq q hq).2.qs (by omega)⟩
      have zn0 : p.1 ≠ [] := fun e => by rw [e] at hX0l; simp at hX0l; omega
      have hd : ∃ e : Nat, p.2 = e ∧ e ≤ k := by
        obtain ⟨e, h1, h2, _⟩ := hF p List.mem_cons_self
        exact ⟨e, h1, h2⟩
      obtain ⟨d, hd1, hd2⟩ := hd
      by_cases hin : 0 ≤ a ∧ a < (w.length : Int)
      · obtain ⟨i, rfl⟩ := Int.eq_ofNat_of_zero_le hin.1
        have hin2 : i < w.length := by omega
        by_cases hdp : depth ≤ p.2
        · skip
          have c0 := cov_Split_deep v N depth (n := r.length) f (by omega) (by omega) hS.top zq (by omega) (i := i) zr (by omega) hdp
          have hF' : ∀ q ∈ p :: r, PlF L Z w.length (k + 1) q := fun q hq => (hF q hq).up
          have hS' := hS
          unfold cvH at c0
          try simp (maxSteps := 3000000) (disch := first | exact trivial | assumption | omega | exact rOk | exact rCl | exact rNo) only [go_sem, seval, ek, hak, List.length_cons, List.length_nil, lbD, dpD, lb_tail, dp_tail, lb_top, dp_top, rbD]
          refine callG [1, 0] c0 rfl (by simp (maxSteps := 3000000) (disch := first | exact trivial | assumption | omega | exact rOk | exact rCl | exact rNo) only [go_sem, seval]) ?_ ?_ ?_
          · simp (maxSteps := 3000000) (disch := first | exact trivial | assumption | omega | exact rOk | exact rCl | exact rNo) only [go_sem, seval]
            try exact LesV.refl _
          · simp (maxSteps := 3000000) (disch := first | exact trivial | assumption | omega | exact rOk | exact rCl | exact rNo) only [go_sem, seval]
          have hX := (hF' p List.mem_cons_self).bx hL (by omega) (by omega) (by omega)
          have hXl := hX.2.1
          have zn : p.1 ≠ [] := fun e => by rw [e] at hXl; simp at hXl; omega
          have c1 := cov_Top v N depth f (n := r.length) (by omega) (by omega) hS'.top zn (by omega)
          have c2 := cov_Left v N depth (n := r.length + 1) f (by omega)
          have c3 := law6_Is (l := p.1) (fun q hq => ⟨(hX.2.2 q hq).1.mono (by omega), (hX.2.2 q hq).2.mono (by omega)⟩) (by omega)
          have hne2 : (p.2 != p.2) = false := by simp
          unfold cvH at c1 c2
          try simp (maxSteps := 3000000) (disch := first | exact trivial | assumption | omega | exact rOk | exact rCl | exact rNo) only [go_sem, seval, ek, hak, List.length_cons, List.length_nil, lbD, dpD, lb_tail, dp_tail, lb_top, dp_top, rbD]
          refine callG [1, 0] c1 rfl (by simp (maxSteps := 3000000) (disch := first | exact trivial | assumption | omega | exact rOk | exact rCl | exact rNo) only [go_sem, seval]) ?_ ?_ ?_
          · simp (maxSteps := 3000000) (disch := first | exact trivial | assumption | omega | exact rOk | exact rCl | exact rNo) only [go_sem, seval]
            try exact LesV.refl _
          · simp (maxSteps := 3000000) (disch := first | exact trivial | assumption | omega | exact rOk | exact rCl | exact rNo) only [go_sem, seval]
          try simp (maxSteps := 3000000) (disch := first | exact trivial | assumption | omega | exact rOk | exact rCl | exact rNo) only [go_sem, seval, ek, hak, List.length_cons, List.length_nil, lbD, dpD, lb_tail, dp_tail, lb_top, dp_top, rbD]
          refine callG [1, 0] c2 rfl (by simp (maxSteps := 3000000) (disch := first | exact trivial | assumption | omega | exact rOk | exact rCl | exact rNo) only [go_sem, seval]) ?_ ?_ ?_
          · simp (maxSteps := 3000000) (disch := first | exact trivial | assumption | omega | exact rOk | exact rCl | exact rNo) only [go_sem, seval]
            try exact LesV.refl _
          · simp (maxSteps := 3000000) (disch := first | exact trivial | assumption | omega | exact rOk | exact rCl | exact rNo) only [go_sem, seval]
          simp (maxSteps := 3000000) (disch := first | exact trivial | assumption | omega | exact rOk | exact rCl | exact rNo) only [go_sem, seval, ek, hak, List.length_cons, List.length_nil, lbD, dpD, lb_tail, dp_tail, lb_top, dp_top, rbD]
          refine callC c3 ?_ rfl ?_
          · simp (maxSteps := 3000000) (disch := first | exact trivial | assumption | omega | exact rOk | exact rCl | exact rNo) only [go_sem, seval, ek, hak, List.length_cons, List.length_nil, lbD, dpD, lb_tail, dp_tail, lb_top, dp_top, rbD]
            try exact LesV.refl _
          simp (maxSteps := 3000000) (disch := first | exact trivial | assumption | omega | exact rOk | exact rCl | exact rNo) only [go_sem, seval, ek, hak, List.length_cons, List.length_nil, lbD, dpD, lb_tail, dp_tail, lb_top, dp_top, rbD, hne2]
          refine ⟨(k + 1, v, N, p :: r, f), ⟨hk', by show r.length + 1 ≤ N; omega, by show r.length + 1 ≤ k + 1 + 1; omega, hS', hF'⟩, by show acts.length - (k + 1) < acts.length - k; omega, ?_, ?_⟩
          · simp (maxSteps := 3000000) (disch := first | exact trivial | assumption | omega | exact rOk | exact rCl | exact rNo) only [go_sem, seval, ek, hak, List.length_cons, List.length_nil, lbD, dpD, lb_tail, dp_tail, lb_top, dp_top, rbD]
            try exact LeV_int (by omega)
          · simp (maxSteps := 3000000) (disch := first | exact trivial | assumption | omega | exact rOk | exact rCl | exact rNo) only [go_sem, seval, List.length_cons]
            try exact fun _ _ => trivial
        · skip
          have c0 := cov_Split v N depth (n := r.length) f (by omega) (by omega) hS.top zq (by omega) (i := i) zr (by omega) (by omega) (by omega) (by omega)
          have hB2 := ref_BoxSplit zq11 (by omega) (i := i) (by omega)
          obtain ⟨s1, s2⟩ := (hF p List.mem_cons_self).split hL hin2
          have hS' := hS.split (lo := (splitL p.1 i, p.2 + 1)) (hi := (splitH p.1 i, p.2 + 1))
          have hF' : ∀ q ∈ (splitL p.1 i, p.2 + 1) :: (splitH p.1 i, p.2 + 1) :: r, PlF L Z w.length (k + 1) q := fun q hq => by
            rcases List.mem_cons.1 hq with rfl | hq
            · exact s1
            rcases List.mem_cons.1 hq with rfl | hq
            · exact s2
            exact (hF q (List.mem_cons_of_mem _ hq)).up
          unfold cvH at c0
          generalize hf2 : (fun j => if j < r.length then f j else if j = r.length then plD (splitH p.1 i, p.2 + 1) else plD (splitL p.1 i, p.2 + 1)) = f2 at *
          have ls := lb_split (splitL p.1 i, p.2 + 1) (splitH p.1 i, p.2 + 1) r
          have ds := dp_split (splitL p.1 i, p.2 + 1) (splitH p.1 i, p.2 + 1) r (n := p.2 + 1) rfl rfl
          generalize hlo : ((splitL p.1 i, p.2 + 1) : Plc) = lo at *
          generalize hhi : ((splitH p.1 i, p.2 + 1) : Plc) = hi at *
          have el : splitL p.1 i = lo.1 := by rw [← hlo]
          have eh : splitH p.1 i = hi.1 := by rw [← hhi]
          have el2 : p.2 + 1 = lo.2 := by rw [← hlo]
          have eh2 : p.2 + 1 = hi.2 := by rw [← hhi]
          rw [el, eh] at hB2
          try simp (maxSteps := 3000000) (disch := first | exact trivial | assumption | omega | exact rOk | exact rCl | exact rNo) only [go_sem, seval, ek, hak, List.length_cons, List.length_nil, lbD, dpD, lb_tail, dp_tail, lb_top, dp_top, rbD]
          refine callG [1, 0] c0 rfl (by simp (maxSteps := 3000000) (disch := first | exact trivial | assumption | omega | exact rOk | exact rCl | exact rNo) only [go_sem, seval]) ?_ ?_ ?_
          · simp (maxSteps := 3000000) (disch := first | exact trivial | assumption | omega | exact rOk | exact rCl | exact rNo) only [go_sem, seval]
            try exact LesV.refl _
          · simp (maxSteps := 3000000) (disch := first | exact trivial | assumption | omega | exact rOk | exact rCl | exact rNo) only [go_sem, seval]
          simp (maxSteps := 3000000) (disch := first | exact trivial | assumption | omega | exact rOk | exact rCl | exact rNo) only [go_sem, seval, ek, hak, List.length_cons, List.length_nil, lbD, dpD, lb_tail, dp_tail, lb_top, dp_top, rbD]
          refine callCl hB2 ?_ rfl ?_
          · simp (maxSteps := 3000000) (disch := first | exact trivial | assumption | omega | exact rOk | exact rCl | exact rNo) only [go_sem, seval, ek, hak, List.length_cons, List.length_nil, lbD, dpD, lb_tail, dp_tail, lb_top, dp_top, rbD]
            try exact LesV.refl _
          simp (maxSteps := 3000000) (disch := first | exact trivial | assumption | omega | exact rOk | exact rCl | exact rNo) only [go_sem, seval, ek, hak, List.length_cons, List.length_nil, lbD, dpD, lb_tail, dp_tail, lb_top, dp_top, rbD]
          refine ⟨.inl trivial, .inr trivial, by omega, by omega, .inl trivial, .inr trivial, by omega, by omega, ?_⟩
          have zh : (hi :: r).length = r.length + 1 := rfl
          have hX := (hF' lo List.mem_cons_self).bx hL (by omega) (by omega) (by omega)
          have hXl := hX.2.1
          have zn : lo.1 ≠ [] := fun e => by rw [e] at hXl; simp at hXl; omega
          have c1 := cov_Top (v + 1) (r.length + 2) depth f2 (n := (hi :: r).length) (by omega) (by omega) hS'.top zn (by omega)
          have c2 := cov_Left (v + 1) (r.length + 2) depth (n := (hi :: r).length + 1) f2 (by omega)
          have c3 := law6_Is (l := lo.1) (fun q hq => ⟨(hX.2.2 q hq).1.mono (by omega), (hX.2.2 q hq).2.mono (by omega)⟩) (by omega)
          have hne2 : (lo.2 != lo.2) = false := by simp
          unfold cvH at c1 c2
          have e1 : (hi :: r).length + 1 = r.length + 2 := rfl
          rw [e1] at c1 c2
          rw [← el2] at c1 hne2
          try simp (maxSteps := 3000000) (disch := first | exact trivial | assumption | omega | exact rOk | exact rCl | exact rNo) only [go_sem, seval, ek, hak, List.length_cons, List.length_nil, lbD, dpD, lb_tail, dp_tail, lb_top, dp_top, rbD]
          refine callG [1, 0] c1 rfl (by simp (maxSteps := 3000000) (disch := first | exact trivial | assumption | omega | exact rOk | exact rCl | exact rNo) only [go_sem, seval]) ?_ ?_ ?_
          · simp (maxSteps := 3000000) (disch := first | exact trivial | assumption | omega | exact rOk | exact rCl | exact rNo) only [go_sem, seval]
            try exact LesV.refl _
          · simp (maxSteps := 3000000) (disch := first | exact trivial | assumption | omega | exact rOk | exact rCl | exact rNo) only [go_sem, seval]
          try simp (maxSteps := 3000000) (disch := first | exact trivial | assumption | omega | exact rOk | exact rCl | exact rNo) only [go_sem, seval, ek, hak, List.length_cons, List.length_nil, lbD, dpD, lb_tail, dp_tail, lb_top, dp_top, rbD]
          refine callG [1, 0] c2 rfl (by simp (maxSteps := 3000000) (disch := first | exact trivial | assumption | omega | exact rOk | exact rCl | exact rNo) only [go_sem, seval]) ?_ ?_ ?_
          · simp (maxSteps := 3000000) (disch := first | exact trivial | assumption | omega | exact rOk | exact rCl | exact rNo) only [go_sem, seval]
            try exact LesV.refl _
          · simp (maxSteps := 3000000) (disch := first | exact trivial | assumption | omega | exact rOk | exact rCl | exact rNo) only [go_sem, seval]
          simp (maxSteps := 3000000) (disch := first | exact trivial | assumption | omega | exact rOk | exact rCl | exact rNo) only [go_sem, seval, ek, hak, List.length_cons, List.length_nil, lbD, dpD, lb_tail, dp_tail, lb_top, dp_top, rbD]
          refine callC c3 ?_ rfl ?_
          · simp (maxSteps := 3000000) (disch := first | exact trivial | assumption | omega | exact rOk | exact rCl | exact rNo) only [go_sem, seval, ek, hak, List.length_cons, List.length_nil, lbD, dpD, lb_tail, dp_tail, lb_top, dp_top, rbD]
            try exact LesV.refl _
          simp (maxSteps := 3000000) (disch := first | exact trivial | assumption | omega | exact rOk | exact rCl | exact rNo) only [go_sem, seval, ek, hak, List.length_cons, List.length_nil, lbD, dpD, lb_tail, dp_tail, lb_top, dp_top, rbD, hne2]
          refine ⟨(k + 1, (v + 1), (r.length + 2), lo :: (hi :: r), f2), ⟨hk', by show (hi :: r).length + 1 ≤ (r.length + 2); omega, by show (hi :: r).length + 1 ≤ k + 1 + 1; omega, hS', hF'⟩, by show acts.length - (k + 1) < acts.length - k; omega, ?_, ?_⟩
          · simp (maxSteps := 3000000) (disch := first | exact trivial | assumption | omega | exact rOk | exact rCl | exact rNo) only [go_sem, seval, ek, hak, List.length_cons, List.length_nil, lbD, dpD, lb_tail, dp_tail, lb_top, dp_top, rbD]
            exact ⟨LeV.ro (by omega) fun j _ => ls j, LeV.ro (by omega) fun j _ => ds j, LeV_int (by omega)⟩
          · simp (maxSteps := 3000000) (disch := first | exact trivial | assumption | omega | exact rOk | exact rCl | exact rNo) only [go_sem, seval, List.length_cons]
            try exact fun _ _ => trivial
      · skip
        have c0 := cov_Split_arg v N depth (n := r.length) f (by omega) (by omega) hS.top zqs zn0 (by omega) (i := a) (fun h => hin ⟨h.2.1, by have := h.2.2; omega⟩)
        have hF' : ∀ q ∈ p :: r, PlF L Z w.length (k + 1) q := fun q hq => (hF q hq).up
        have hS' := hS
        unfold cvH at c0
        by_cases hneg : a < 0
        · skip
          try simp (maxSteps := 3000000) (disch := first | exact trivial | assumption | omega | exact rOk | exact rCl | exact rNo) only [go_sem, seval, ek, hak, List.length_cons, List.length_nil, lbD, dpD, lb_tail, dp_tail, lb_top, dp_top, rbD]
          refine callG [1, 0] c0 rfl (by simp (maxSteps := 3000000) (disch := first | exact trivial | assumption | omega | exact rOk | exact rCl | exact rNo) only [go_sem, seval]) ?_ ?_ ?_
          · simp (maxSteps := 3000000) (disch := first | exact trivial | assumption | omega | exact rOk | exact rCl | exact rNo) only [go_sem, seval]
            try exact LesV.refl _
          · simp (maxSteps := 3000000) (disch := first | exact trivial | assumption | omega | exact rOk | exact rCl | exact rNo) only [go_sem, seval]
          have hX := (hF' p List.mem_cons_self).bx hL (by omega) (by omega) (by omega)
          have hXl := hX.2.1
          have zn : p.1 ≠ [] := fun e => by rw [e] at hXl; simp at hXl; omega
          have c1 := cov_Top v N depth f (n := r.length) (by omega) (by omega) hS'.top zn (by omega)
          have c2 := cov_Left v N depth (n := r.length + 1) f (by omega)
          have c3 := law6_Is (l := p.1) (fun q hq => ⟨(hX.2.2 q hq).1.mono (by omega), (hX.2.2 q hq).2.mono (by omega)⟩) (by omega)
          have hne2 : (p.2 != p.2) = false := by simp
          unfold cvH at c1 c2
          try simp (maxSteps := 3000000) (disch := first | exact trivial | assumption | omega | exact rOk | exact rCl | exact rNo) only [go_sem, seval, ek, hak, List.length_cons, List.length_nil, lbD, dpD, lb_tail, dp_tail, lb_top, dp_top, rbD]
          refine callG [1, 0] c1 rfl (by simp (maxSteps := 3000000) (disch := first | exact trivial | assumption | omega | exact rOk | exact rCl | exact rNo) only [go_sem, seval]) ?_ ?_ ?_
          · simp (maxSteps := 3000000) (disch := first | exact trivial | assumption | omega | exact rOk | exact rCl | exact rNo) only [go_sem, seval]
            try exact LesV.refl _
          · simp (maxSteps := 3000000) (disch := first | exact trivial | assumption | omega | exact rOk | exact rCl | exact rNo) only [go_sem, seval]
          try simp (maxSteps := 3000000) (disch := first | exact trivial | assumption | omega | exact rOk | exact rCl | exact rNo) only [go_sem, seval, ek, hak, List.length_cons, List.length_nil, lbD, dpD, lb_tail, dp_tail, lb_top, dp_top, rbD]
          refine callG [1, 0] c2 rfl (by simp (maxSteps := 3000000) (disch := first | exact trivial | assumption | omega | exact rOk | exact rCl | exact rNo) only [go_sem, seval]) ?_ ?_ ?_
          · simp (maxSteps := 3000000) (disch := first | exact trivial | assumption | omega | exact rOk | exact rCl | exact rNo) only [go_sem, seval]
            try exact LesV.refl _
          · simp (maxSteps := 3000000) (disch := first | exact trivial | assumption | omega | exact rOk | exact rCl | exact rNo) only [go_sem, seval]
          simp (maxSteps := 3000000) (disch := first | exact trivial | assumption | omega | exact rOk | exact rCl | exact rNo) only [go_sem, seval, ek, hak, List.length_cons, List.length_nil, lbD, dpD, lb_tail, dp_tail, lb_top, dp_top, rbD]
          refine callC c3 ?_ rfl ?_
          · simp (maxSteps := 3000000) (disch := first | exact trivial | assumption | omega | exact rOk | exact rCl | exact rNo) only [go_sem, seval, ek, hak, List.length_cons, List.length_nil, lbD, dpD, lb_tail, dp_tail, lb_top, dp_top, rbD]
            try exact LesV.refl _
          simp (maxSteps := 3000000) (disch := first | exact trivial | assumption | omega | exact rOk | exact rCl | exact rNo) only [go_sem, seval, ek, hak, List.length_cons, List.length_nil, lbD, dpD, lb_tail, dp_tail, lb_top, dp_top, rbD, hne2]
          refine ⟨(k + 1, v, N, p :: r, f), ⟨hk', by show r.length + 1 ≤ N; omega, by show r.length + 1 ≤ k + 1 + 1; omega, hS', hF'⟩, by show acts.length - (k + 1) < acts.length - k; omega, ?_, ?_⟩
          · simp (maxSteps := 3000000) (disch := first | exact trivial | assumption | omega | exact rOk | exact rCl | exact rNo) only [go_sem, seval, ek, hak, List.length_cons, List.length_nil, lbD, dpD, lb_tail, dp_tail, lb_top, dp_top, rbD]
            try exact LeV_int (by omega)
          · simp (maxSteps := 3000000) (disch := first | exact trivial | assumption | omega | exact rOk | exact rCl | exact rNo) only [go_sem, seval, List.length_cons]
            try exact fun _ _ => trivial
        · have hge : (w.length : Int) ≤ a := by omega
          try simp (maxSteps := 3000000) (disch := first | exact trivial | assumption | omega | exact rOk | exact rCl | exact rNo) only [go_sem, seval, ek, hak, List.length_cons, List.length_nil, lbD, dpD, lb_tail, dp_tail, lb_top, dp_top, rbD]
          refine callG [1, 0] c0 rfl (by simp (maxSteps := 3000000) (disch := first | exact trivial | assumption | omega | exact rOk | exact rCl | exact rNo) only [go_sem, seval]) ?_ ?_ ?_
          · simp (maxSteps := 3000000) (disch := first | exact trivial | assumption | omega | exact rOk | exact rCl | exact rNo) only [go_sem, seval]
            try exact LesV.refl _
          · simp (maxSteps := 3000000) (disch := first | exact trivial | assumption | omega | exact rOk | exact rCl | exact rNo) only [go_sem, seval]
          have hX := (hF' p List.mem_cons_self).bx hL (by omega) (by omega) (by omega)
          have hXl := hX.2.1
          have zn : p.1 ≠ [] := fun e => by rw [e] at hXl; simp at hXl; omega
          have c1 := cov_Top v N depth f (n := r.length) (by omega) (by omega) hS'.top zn (by omega)
          have c2 := cov_Left v N depth (n := r.length + 1) f (by omega)
          have c3 := law6_Is (l := p.1) (fun q hq => ⟨(hX.2.2 q hq).1.mono (by omega), (hX.2.2 q hq).2.mono (by omega)⟩) (by omega)
          have hne2 : (p.2 != p.2) = false := by simp
          unfold cvH at c1 c2
          try simp (maxSteps := 3000000) (disch := first | exact trivial | assumption | omega | exact rOk | exact rCl | exact rNo) only [go_sem, seval, ek, hak, List.length_cons, List.length_nil, lbD, dpD, lb_tail, dp_tail, lb_top, dp_top, rbD]
          refine callG [1, 0] c1 rfl (by simp (maxSteps := 3000000) (disch := first | exact trivial | assumption | omega | exact rOk | exact rCl | exact rNo) only [go_sem, seval]) ?_ ?_ ?_
          · simp (maxSteps := 3000000) (disch := first | exact trivial | assumption | omega | exact rOk | exact rCl | exact rNo) only [go_sem, seval]
            try exact LesV.refl _
          · simp (maxSteps := 3000000) (disch := first | exact trivial | assumption | omega | exact rOk | exact rCl | exact rNo) only [go_sem, seval]
          try simp (maxSteps := 3000000) (disch := first | exact trivial | assumption | omega | exact rOk | exact rCl | exact rNo) only [go_sem, seval, ek, hak, List.length_cons, List.length_nil, lbD, dpD, lb_tail, dp_tail, lb_top, dp_top, rbD]
          refine callG [1, 0] c2 rfl (by simp (maxSteps := 3000000) (disch := first | exact trivial | assumption | omega | exact rOk | exact rCl | exact rNo) only [go_sem, seval]) ?_ ?_ ?_
          · simp (maxSteps := 3000000) (disch := first | exact trivial | assumption | omega | exact rOk | exact rCl | exact rNo) only [go_sem, seval]
            try exact LesV.refl _
          · simp (maxSteps := 3000000) (disch := first | exact trivial | assumption | omega | exact rOk | exact rCl | exact rNo) only [go_sem, seval]
          simp (maxSteps := 3000000) (disch := first | exact trivial | assumption | omega | exact rOk | exact rCl | exact rNo) only [go_sem, seval, ek, hak, List.length_cons, List.length_nil, lbD, dpD, lb_tail, dp_tail, lb_top, dp_top, rbD]
          refine callC c3 ?_ rfl ?_
          · simp (maxSteps := 3000000) (disch := first | exact trivial | assumption | omega | exact rOk | exact rCl | exact rNo) only [go_sem, seval, ek, hak, List.length_cons, List.length_nil, lbD, dpD, lb_tail, dp_tail, lb_top, dp_top, rbD]
            try exact LesV.refl _
          simp (maxSteps := 3000000) (disch := first | exact trivial | assumption | omega | exact rOk | exact rCl | exact rNo) only [go_sem, seval, ek, hak, List.length_cons, List.length_nil, lbD, dpD, lb_tail, dp_tail, lb_top, dp_top, rbD, hne2]
          refine ⟨(k + 1, v, N, p :: r, f), ⟨hk', by show r.length + 1 ≤ N; omega, by show r.length + 1 ≤ k + 1 + 1; omega, hS', hF'⟩, by show acts.length - (k + 1) < acts.length - k; omega, ?_, ?_⟩
          · simp (maxSteps := 3000000) (disch := first | exact trivial | assumption | omega | exact rOk | exact rCl | exact rNo) only [go_sem, seval, ek, hak, List.length_cons, List.length_nil, lbD, dpD, lb_tail, dp_tail, lb_top, dp_top, rbD]
            try exact LeV_int (by omega)
          · simp (maxSteps := 3000000) (disch := first | exact trivial | assumption | omega | exact rOk | exact rCl | exact rNo) only [go_sem, seval, List.length_cons]
            try exact fun _ _ => trivial
end Go.Proofs.YtmcinfbckdiaoaaGreatDoor.Lv
