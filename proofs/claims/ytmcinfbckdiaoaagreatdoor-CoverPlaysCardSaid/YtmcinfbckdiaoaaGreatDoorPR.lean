/- The program's numbers: long. -/
import Derived.Test.YtmcinfbckdiaoaaGreatDoorPQ
set_option linter.unusedVariables false
set_option linter.unusedSimpArgs false
set_option maxRecDepth 100000
set_option maxHeartbeats 4000000
namespace Go.Proofs.YtmcinfbckdiaoaaGreatDoor.Lv
open Go Go.RowKit
theorem padL_low {n N : Nat} : lows (padL n N) := lows_app (limbs_low n) (lows_rep _)
theorem padL_val (n N : Nat) : val (padL n N) = n := by rw [padL, val_append, val_rep, val_limbs, Nat.mul_zero, Nat.add_zero]
/-- A right guess. -/
theorem take_right {w m : List Nat} {g : Nat} (lw : w.length = m.length + 1) (hw : lows w) (h : ¬ val w < g * val m) (h2 : val w < (g + 1) * val m) :
    (tkW (val w) (val m) g (m.length + 1)).length = w.length ∧ lows (tkW (val w) (val m) g (m.length + 1)) ∧ val w / val m = g ∧ val w % val m = val (tkW (val w) (val m) g (m.length + 1)) := by
  have hlt := val_ltB hw
  rw [lw] at hlt
  unfold tkW
  rw [if_neg h]
  have hd := div_right (w1 := val w - g * val m) (W := val w) (V := val m) (g := g) (Q := 0) (by omega) h2
  refine ⟨by rw [padL_len (nb_lt.2 (by omega))]; omega, padL_low, hd.1, by rw [padL_val]; exact hd.2⟩
/-- One that was too great: what is left, short of one too many. -/
theorem take_wrong {w m : List Nat} {g : Nat} (lw : w.length = m.length + 1) (hw : lows w) (hm : lows m) (h : val w < g * val m) (h2 : g * val m < val w + val m) :
    (tkW (val w) (val m) g (m.length + 1)).length = m.length + 1 ∧ lows (tkW (val w) (val m) g (m.length + 1)) ∧ val (tkW (val w) (val m) g (m.length + 1)) + g * val m = val w + 4294967296 ^ (m.length + 1) * 1 := by
  have hlt := val_ltB hm
  have hlw := val_ltB hw
  rw [lw] at hlw
  have hB : 4294967296 ^ (m.length + 1) = 4294967296 ^ m.length * 4294967296 := Nat.pow_succ ..
  unfold tkW
  rw [if_pos h]
  refine ⟨padL_len (nb_lt.2 (by omega)), padL_low, ?_⟩
  rw [padL_val]
  omega
theorem put_back {w m w1 w2 : List Nat} {g k : Nat} (lw2 : w2.length = m.length + 1) (l2 : lows w2) (lw1 : w1.length = m.length + 1) (l1 : lows w1) (hm : lows m) (h1 : val w1 + g * val m = val w + 4294967296 ^ (m.length + 1) * 1) (h2 : val w2 + 4294967296 ^ (m.length + 1) * k = val w1 + val m) (hg : g * val m < val w + val m) :
    0 < g ∧ val w / val m = g - 1 ∧ val w % val m = val w2 := by
  have a1 := val_ltB l1
  have a2 := val_ltB l2
  have a3 := val_ltB hm
  rw [lw1] at a1
  rw [lw2] at a2
  have hB : 4294967296 ^ (m.length + 1) = 4294967296 ^ m.length * 4294967296 := Nat.pow_succ ..
  exact div_back h1 h2 a1 a2 hg (by omega)
theorem LongP.pad {u v u' q : List Nat} {M : Nat} (h : LongP u v 0 u' q) (hM : M + v.length = u.length) : q = padL (val u / val v) M ∧ u' = padL (val u % val v) u.length := by
  obtain ⟨e1, e2⟩ := h.fin
  obtain ⟨h1, h2, h3, h4, h5, h6⟩ := h
  have p1 := pad_val h3
  have p2 := pad_val h2
  rw [e1, show q.length = M by omega] at p1
  rw [e2, h1] at p2
  exact ⟨p1, p2⟩
theorem nat_long {u v t : List Nat} {M N k : Nat} (hu : lows u) (hv : lows v) (lv : v.length = k + 2) (hM : M + v.length = u.length) (hbig : 2147483648 ≤ v.getD (k + 1) 0) (hlt : val (u.drop M) < val v) (hN : N = M + (k + 2) + t.length) (hb : N < 1073741824) (ver : Nat) (f : Nat → D) (hf : ∀ j, j < N → f j = lR (u ++ t) j) :
    CG E 141 [.sl 0 ver 0 (M + (k + 2)), u32s v] [(0, .row false ver false 1 N f)] (.sl 1 0 0 M)
      [(0, .row false ver false 1 N (lR (padL (val u % val v) (M + (k + 2)) ++ t))), (1, .row false 0 false 1 M (lR (padL (val u / val v) M)))] := by
  refine CG_intro Tryz.func141 rfl (by kernel_rfl) rfl (by kernel_rfl) (by kernel_rfl) rfl ?_
  have e0 : (((M + (k + 2) : Nat) : Int) - ((k + 2 : Nat) : Int)).toNat = M := by omega
  simp (maxSteps := 3000000) (disch := first | exact trivial | assumption | omega | exact rOk | exact rCl | exact rNo) only [go_sem, seval, u32s, lv, e0]
  refine ⟨by omega, by omega, by omega, ?_⟩
  refine AL.of (fun s : Nat × List Nat × List Nat => s.1 ≤ M ∧ LongP u v s.1 s.2.1 s.2.2) (fun s => s.1) (fun s => [(0, .sl 0 ver 0 (M + (k + 2))), (1, u32s v), (5, .int .i64 ((k + 2 : Nat) : Int)), (6, .sl 1 0 0 M), (7, .int .i64 ((s.1 : Int) - 1))])
    (fun s => [(1, .row false 0 false 1 M (lR s.2.2)), (0, .row false ver false 1 N (lR (s.2.1 ++ t)))]) (M, u, List.replicate M 0) ⟨Nat.le_refl _, LongP.zero hu hM hlt⟩ ?_ ?_ ?_ ?_
  · simp (maxSteps := 3000000) (disch := first | exact trivial | assumption | omega | exact rOk | exact rCl | exact rNo) only [go_sem, seval, u32s, lv, e0]
    try exact LeV_int (by omega)
  · simp (maxSteps := 3000000) (disch := first | exact trivial | assumption | omega | exact rOk | exact rCl | exact rNo) only [go_sem, seval, u32s, e0]
    exact ⟨fun i hi => Le.of_eq (by unfold lR; rw [List.getD_eq_getElem?_getD, List.getElem?_replicate, if_pos hi]; rfl), fun i hi => Le.of_eq (hf i hi)⟩
  · intro x _; simp (maxSteps := 3000000) (disch := first | exact trivial | assumption | omega | exact rOk | exact rCl | exact rNo) only [go_sem, seval]
  rintro ⟨c, u', q⟩ ⟨hc, hP⟩
  simp only at hc hP
  rcases c with _ | j
  · obtain ⟨p1, p2⟩ := hP.pad hM
    rw [show u.length = M + (k + 2) by omega] at p2
    rw [← p1, ← p2]
    simp (maxSteps := 3000000) (disch := first | exact trivial | assumption | omega | exact rOk | exact rCl | exact rNo) only [go_sem, seval]
    exact ⟨fun _ _ => trivial, fun _ _ => trivial⟩
  · obtain ⟨p, w, r, rfl, hp, lw, lw', hr, hlt', lp, lr⟩ := hP.parts hv (by have := hP.2.2.2.1; omega)
    have G := Gue.of (k := k) lw' hv (by omega) lv hbig hlt'
    have hlen := hP.1
    have hassoc : ∀ z : List Nat, (p ++ z ++ r) ++ t = p ++ z ++ (r ++ t) := fun z => List.append_assoc _ _ _
    rw [hassoc]
    have hN' : N = p.length + (k + 3) + (r ++ t).length := by simp at hlen ⊢; omega
    have hg := nat_guess (p := p) (q := r ++ t) lv (by omega) lw' hv hN' hb ver G
    subst hp
    have s1 : (((p.length + 1 : Nat) : Int) - 1).toNat = p.length := by omega
    have s2 : (((p.length + 1 : Nat) : Int) - 1 + ((k + 2 : Nat) : Int) + 1).toNat = p.length + (k + 3) := by omega
    have s3 : p.length + (k + 3) - p.length = k + 3 := by omega
    obtain ⟨o1, o2, o3⟩ := gss_ok G
    clear G hbig
    generalize gss (v.getD (k + 1) 0) (v.getD k 0) (w.getD (k + 2) 0 * 4294967296 + w.getD (k + 1) 0) (w.getD k 0) = g at *
    have ht := nat_take (p := p) (q := r ++ t) (w := w) (m := v) (g := g) lw lw' hv o1 (by rw [lv]; exact hN') hb ver
    rw [lv] at ht
    have hvpos : 0 < val v := by omega
    have hq : p.length < q.length := by have := hP.2.2.2.1; omega
    have hqM : q.length = M := by have := hP.2.2.2.1; omega
    have hset := fun (d j : Nat) => lR_set' (w := q) (i := p.length) (d := d) (j := j) hq
    have hgw : IntKind.u32.wrap (g : Int) = (g : Int) := wrap_u32 (by omega)
    simp (maxSteps := 3000000) (disch := first | exact trivial | assumption | omega | exact rOk | exact rCl | exact rNo) only [go_sem, seval, u32s, s1, s2, s3, lv]
    refine callG [0] hg rfl (by simp (maxSteps := 3000000) (disch := first | exact trivial | assumption | omega | exact rOk | exact rCl | exact rNo) only [go_sem, seval]) ?_ ?_ ?_
    · simp (maxSteps := 3000000) (disch := first | exact trivial | assumption | omega | exact rOk | exact rCl | exact rNo) only [go_sem, seval, u32s, lv]
    · simp (maxSteps := 3000000) (disch := first | exact trivial | assumption | omega | exact rOk | exact rCl | exact rNo) only [go_sem, seval]
    simp (maxSteps := 3000000) (disch := first | exact trivial | assumption | omega | exact rOk | exact rCl | exact rNo) only [go_sem, seval, u32s, s1, s2, s3, lv]
    refine callG [0] ht rfl (by simp (maxSteps := 3000000) (disch := first | exact trivial | assumption | omega | exact rOk | exact rCl | exact rNo) only [go_sem, seval]) ?_ ?_ ?_
    · simp (maxSteps := 3000000) (disch := first | exact trivial | assumption | omega | exact rOk | exact rCl | exact rNo) only [go_sem, seval, u32s, lv]
    · simp (maxSteps := 3000000) (disch := first | exact trivial | assumption | omega | exact rOk | exact rCl | exact rNo) only [go_sem, seval]
    by_cases hneg : val w < g * val v
    · obtain ⟨b1, b2, b3⟩ := take_wrong lw lw' hv hneg o2
      have hd : decide (val w < g * val v) = true := decide_eq_true hneg
      rw [lv] at b1 b2 b3
      generalize tkW (val w) (val v) g (k + 2 + 1) = w1 at *
      have hg0 : 0 < g := by
        rcases Nat.eq_zero_or_pos g with h | h
        · subst h; omega
        · exact h
      have hw1 : IntKind.u64.wrap ((g : Int) - 1) = ((g - 1 : Nat) : Int) := by rw [wrap_u64 (by omega)]; omega
      have hgw1 : IntKind.u32.wrap ((g - 1 : Nat) : Int) = ((g - 1 : Nat) : Int) := wrap_u32 (by omega)
      clear hneg o3
      simp (maxSteps := 3000000) (disch := first | exact trivial | assumption | omega | exact rOk | exact rCl | exact rNo) only [go_sem, seval, u32s, s1, s2, s3, lv, hd, hw1]
      refine AL.of (AdP w1 v) (fun s => v.length - s.1) (fun s => [(0, .sl 0 ver 0 (M + (k + 2))), (1, u32s v), (5, .int .i64 ((k + 2 : Nat) : Int)), (6, .sl 1 0 0 M), (7, .int .i64 (((p.length + 1 : Nat) : Int) - 1)), (8, .int .u64 ((g - 1 : Nat) : Int)), (9, .int .u64 s.2.1), (49, u32s v), (50, .int .i64 ((k + 2 : Nat) : Int)), (51, .int .i64 s.1)])
        (fun s => [(1, .row false 0 false 1 M (lR q)), (0, .row false ver false 1 N (lR (p ++ s.2.2 ++ (r ++ t))))]) (0, 0, w1) (AdP.zero (by rw [lv]; exact b1) b2) ?_ ?_ ?_ ?_
      · simp (maxSteps := 3000000) (disch := first | exact trivial | assumption | omega | exact rOk | exact rCl | exact rNo) only [go_sem, seval, u32s, lv]
      · simp (maxSteps := 3000000) (disch := first | exact trivial | assumption | omega | exact rOk | exact rCl | exact rNo) only [go_sem, seval, u32s]
        exact ⟨fun _ _ => trivial, fun _ _ => trivial⟩
      · intro x _; simp (maxSteps := 3000000) (disch := first | exact trivial | assumption | omega | exact rOk | exact rCl | exact rNo) only [go_sem, seval]
      rintro ⟨i, c, w'⟩ hA
      have hn := hA.next hv
      have hf := hA
      obtain ⟨h1, h2, h3, h4, h5, h6⟩ := hA
      simp only at h1 h2 h3 h4 h5 h6
      have gx := h4.getD i
      have hget : lR (p ++ w' ++ (r ++ t)) (p.length + i) = .int .u32 ((w'.getD i 0 : Nat) : Int) := by rw [lR, win_get (by omega)]
      have hsetw := fun (d j : Nat) => lR_set' (w := p ++ w' ++ (r ++ t)) (i := p.length + i) (d := d) (j := j) (by simp; omega)
      have hset2 := fun d : Nat => win_set (p := p) (w := w') (q := r ++ t) (i := i) (d := d) (by omega)
      simp only [hset2] at hsetw
      have u1 : ((i : Int) + (((p.length + 1 : Nat) : Int) - 1)).toNat = p.length + i := by omega
      by_cases hi : i = v.length
      · subst hi
        obtain ⟨f1, f2, f3⟩ := hf.fin (by rw [lv]; exact b1)
        have hback := put_back (w := w) (w1 := w1) (g := g) (m := v) (f1.trans (by rw [lv]; exact b1)) f2 (by rw [lv]; exact b1) b2 hv (by rw [lv]; exact b3) f3 o2
        obtain ⟨k1, k2, k3⟩ := hback
        have hnx := hP.next (w1 := w'.set v.length ((w'.getD v.length 0 + c) % 4294967296)) rfl lw (by rw [f1, b1]; omega) f2 hr hq (show g - 1 < 4294967296 by omega) k2 k3 hvpos
        have u2 : (((p.length + 1 : Nat) : Int) - 1 + ((k + 2 : Nat) : Int)).toNat = p.length + (k + 2) := by omega
        have uc : IntKind.u32.wrap (c : Int) = (c : Int) := wrap_u32 (by omega)
        have ux : IntKind.u32.wrap ((w'.getD (k + 2) 0 : Int) + (c : Int)) = (((w'.getD (k + 2) 0 + c) % 4294967296 : Nat) : Int) := by rw [wrap_u32']; omega
        rw [lv] at hget hsetw hnx
        have hsetq := fun (j : Nat) => hset (g - 1) j
        clear hP b3 hf hn h5 h6 o2 f3 k2 k3 hset2 f2 b2 h4 hlt hlt'
        simp (maxSteps := 3000000) (disch := first | exact trivial | assumption | omega | exact rOk | exact rCl | exact rNo) only [go_sem, seval, u32s, s1, u2, hget, uc, ux, hgw1, lv]
        refine ⟨(p.length, _, _), ⟨by show p.length ≤ M; omega, hnx⟩, Nat.lt_succ_self _, ?_, ?_⟩
        · simp (maxSteps := 3000000) (disch := first | exact trivial | assumption | omega | exact rOk | exact rCl | exact rNo) only [go_sem, seval, u32s, lv]
          try exact LeV_int (by omega)
        · simp (maxSteps := 3000000) (disch := first | exact trivial | assumption | omega | exact rOk | exact rCl | exact rNo) only [go_sem, seval, u32s]
          exact ⟨fun i hi => Le.of_eq (hsetq i), fun i hi => Le.of_eq (by rw [hassoc]; exact hsetw _ i)⟩
      · have hi' : i < v.length := by omega
        have hn' := hn hi'
        have gy := hv.getD i
        have v1 : IntKind.u32.wrap ((c : Int) + ((w'.getD i 0 : Int) + (v.getD i 0 : Int))) = (((c + (w'.getD i 0 + v.getD i 0)) % 4294967296 : Nat) : Int) := by rw [wrap_u32']; omega
        have v2 : ((c : Int) + ((w'.getD i 0 : Int) + (v.getD i 0 : Int))) / 4294967296 = (((c + (w'.getD i 0 + v.getD i 0)) / 4294967296 : Nat) : Int) := by omega
        clear hP b3 hf hn h5 h6 o2 hset2 b2 h4 hlt hlt' hset
        simp (maxSteps := 3000000) (disch := first | exact trivial | assumption | omega | exact rOk | exact rCl | exact rNo) only [go_sem, seval, u32s, u1, hget, v1, v2, lv]
        refine ⟨_, hn', by show k + 2 - (i + 1) < k + 2 - i; omega, ?_, ?_⟩
        · simp (maxSteps := 3000000) (disch := first | exact trivial | assumption | omega | exact rOk | exact rCl | exact rNo) only [go_sem, seval, u32s, lv]
          try exact LeV_int (by omega)
        · simp (maxSteps := 3000000) (disch := first | exact trivial | assumption | omega | exact rOk | exact rCl | exact rNo) only [go_sem, seval, u32s]
          exact ⟨fun _ _ => trivial, fun i hi => Le.of_eq (hsetw _ i)⟩
    · obtain ⟨b1, b2, b3, b4⟩ := take_right lw lw' hneg o3
      have hd : decide (val w < g * val v) = false := decide_eq_false hneg
      rw [lv] at b1 b2 b4
      generalize tkW (val w) (val v) g (k + 2 + 1) = w1 at *
      have hnx := hP.next rfl lw b1 b2 hr hq o1 b3 b4 hvpos
      clear hP b3 b4 o2 o3 hneg hlt hlt'
      simp (maxSteps := 3000000) (disch := first | exact trivial | assumption | omega | exact rOk | exact rCl | exact rNo) only [go_sem, seval, u32s, s1, s2, s3, lv, hd, hgw]
      refine ⟨(p.length, _, _), ⟨by show p.length ≤ M; omega, hnx⟩, Nat.lt_succ_self _, ?_, ?_⟩
      · simp (maxSteps := 3000000) (disch := first | exact trivial | assumption | omega | exact rOk | exact rCl | exact rNo) only [go_sem, seval, u32s, lv]
        try exact LeV_int (by omega)
      · simp (maxSteps := 3000000) (disch := first | exact trivial | assumption | omega | exact rOk | exact rCl | exact rNo) only [go_sem, seval, u32s]
        exact ⟨fun i hi => Le.of_eq (hset _ i), fun i hi => Le.of_eq (by rw [hassoc])⟩
end Go.Proofs.YtmcinfbckdiaoaaGreatDoor.Lv
